/- Objects from lines: the plain law of layer 9 (Program). No program in sight. A draft: nothing of it is joined to a walk yet. -/
import Derived.Test.YtpcihhdalofdiaaGreatDoorCodeLaw
import Derived.Test.YtpcihhdalofdiaaGreatDoorName
import Derived.Test.YtpcihhdalofdiaaGreatDoorBytes
import Derived.Test.YtpcihhdalofdiaaGreatDoorObjLaw
import Derived.Test.YtpcihhdalofdiaaGreatDoorTxtB
import Derived.Test.YtpcihhdalofdiaaGreatDoorTxtD
import Derived.Test.YtpcihhdalofdiaaGreatDoorTwice
import Derived.Maps.OwnSet
import Derived.Test.YtpcihhdalofdiaaGreatDoorTxtE
import Derived.Shelf.Strings.Cut
import Derived.Test.YtpcihhdalofdiaaGreatDoorOpB
import Derived.Test.YtpcihhdalofdiaaGreatDoorText
import Derived.Test.YtpcihhdalofdiaaGreatDoorFind
import Derived.Test.YtpcihhdalofdiaaGreatDoorText4
namespace Go.Proofs.YtpcihhdalofdiaaGreatDoor

/-- An object that comes to be: where the labels are, where they are used (instruction, operand, line), where predicates begin (which, line). -/
structure AS where
  o : LObj
  labels : Int → Option Nat
  uses : List (Nat × Nat × Nat)
  begins : List (Nat × Nat)
def AS0 : AS := ⟨⟨[], [], [], []⟩, fun _ => none, [], []⟩
def wdB (l : Txt) : ByteArray := ⟨l.toArray⟩
/-- What is ahead of the first slash, and behind it. -/
def cutT (w : Txt) : Txt × Txt := (w.takeWhile (· != 47), (w.dropWhile (· != 47)).tail)
/-- A number from 0 to most, in its only spelling; or -1. -/
def numM (w : Txt) (most : Int) : Int := if 0 ≤ numT w ∧ numT w ≤ most then numT w else -1
def slashP (w : Txt) (least : Int) : Option LFun :=
  if nameOk (wdB (cutT w).1) = true ∧ least ≤ numM (cutT w).2 8 then some ⟨wdB (cutT w).1, numM (cutT w).2 8⟩ else none
def labelP : Txt → Int
  | 64 :: r => numM r 1023
  | _ => -1
/-- An operand that is as in an instruction's text: by an instruction of one such operand. -/
def ofK (k : Nat) : Int := if k = 1 then 6 else if k = 2 then 5 else if k = 5 then 9 else if k = 6 then 15 else if k = 9 then 24 else 0
def plainP (k : Nat) (w : Txt) : Int :=
  if (parseT opP (nameT (ofK k) ++ 32 :: w)).2 = 0 then (parseT opP (nameT (ofK k) ++ 32 :: w)).1.a0 else -1
def fitsP (op : Int) (k : Nat) (w : Txt) : Bool :=
  if k = 3 then nameOk (wdB w) else if k = 4 then (slashP w 1).isSome else if k = 7 then (slashP w 0).isSome
  else if k = 8 then decide (0 ≤ labelP w) || (op == 26 && w == [45]) else decide (0 ≤ plainP k w)
def idxL {α : Type} [DecidableEq α] (l : List α) (x : α) : List α := if x ∈ l then l else l ++ [x]
def idxA {α : Type} [DecidableEq α] (l : List α) (x : α) : Nat := if x ∈ l then l.idxOf x else l.length
/-- A predicate's number, to which it comes. -/
def predP (o : LObj) (f : LFun) : LObj × Nat :=
  match o.preds.findIdx? fun p => decide (p.name = f.name) && decide (p.arity = f.arity) with
  | some k => (o, k)
  | none => ({ o with preds := o.preds ++ [⟨f.name, f.arity, 65535⟩] }, o.preds.length)
def operandP (o : LObj) (k : Nat) (w : Txt) : LObj × Int :=
  if k = 3 then ({ o with atoms := idxL o.atoms (wdB w) }, (idxA o.atoms (wdB w) : Int))
  else if k = 4 then (match slashP w 1 with
    | some f => ({ o with funs := idxL o.funs f }, (idxA o.funs f : Int))
    | none => (o, -1))
  else if k = 7 then (match slashP w 0 with
    | some f => ((predP o f).1, ((predP o f).2 : Int))
    | none => (o, -1))
  else if k = 8 then (o, if w = [45] then 65535 else labelP w)
  else (o, plainP k w)
/-- The operands, one behind the other: the object, what they say, where labels are used. -/
def operandsP (n at_ : Nat) : LObj → Nat → List (Nat × Txt) → LObj × List Int × List (Nat × Nat × Nat)
  | o, _, [] => (o, [], [])
  | o, j, (k, w) :: r =>
    let x := operandP o k w
    let q := operandsP n at_ x.1 (j + 1) r
    (q.1, x.2 :: q.2.1, (if k = 8 ∧ x.2 ≠ 65535 then [(n, j, at_)] else []) ++ q.2.2)
def instrP (S : AS) (w : List Txt) (at_ : Nat) : AS × Int :=
  let op := namedT (w.headD [])
  let ks := (kindsOf op).map Int.toNat
  if op < 0 ∨ w.length ≠ ks.length + 1 ∨ ((ks.zip w.tail).all fun x => fitsP op x.1 x.2) = false then (S, 17)
  else
    let q := operandsP S.o.code.length at_ S.o 0 (ks.zip w.tail)
    ({ S with o := { q.1 with code := q.1.code ++ [insW op q.2.1] }, uses := S.uses ++ q.2.2 }, 0)
def beginP (S : AS) (w : Txt) (at_ : Nat) : AS × Int :=
  match slashP w 0 with
  | none => (S, 17)
  | some f =>
    let r := predP S.o f
    if S.begins.any (fun b => b.1 == r.2) then (S, 11)
    else ({ S with o := { r.1 with preds := r.1.preds.modify r.2 fun p => { p with entry := (S.o.code.length : Int) } }, begins := S.begins ++ [(r.2, at_)] }, 0)
def markP (S : AS) (s : Txt) : AS × Int :=
  if labelP s < 0 then (S, 17) else if (S.labels (labelP s)).isSome then (S, 11)
  else ({ S with labels := fun n => if n = labelP s then some S.o.code.length else S.labels n }, 0)
def predW : Txt := [112, 114, 101, 100]
def lineP (S : AS) (s : Txt) (at_ : Nat) : AS × Int :=
  if (splitT s).length = 2 ∧ (splitT s).headD [] = predW then beginP S ((splitT s).getD 1 []) at_
  else if (splitT s).length = 1 ∧ s.head? = some 64 then markP S s
  else instrP S (splitT s) at_
def fullP (o : LObj) : Bool := decide (256 < o.atoms.length) || decide (256 < o.funs.length) || decide (64 < o.preds.length) || decide (1024 < o.code.length)
/-- All lines: the object that comes to be, or what is wrong, and in which line. -/
def linesP : AS → Nat → List Txt → AS × Int × Int
  | S, _, [] => (S, 0, -1)
  | S, n, s :: l =>
    let r := lineP S s n
    if r.2 ≠ 0 then (S, r.2, n) else if fullP r.1.o then (S, 2, n) else linesP r.1 (n + 1) l
/-- What a label's use, a predicate's beginning, has wrong. -/
def useAt (S : AS) (u : Nat × Nat × Nat) : Option Nat := S.labels ((S.o.code.getD u.1 ⟨0, 0, 0, 0, 0⟩).arg u.2.1)
def badUse (S : AS) (u : Nat × Nat × Nat) : Bool := match useAt S u with
  | some p => decide (S.o.code.length ≤ p)
  | none => true
def entryAt (S : AS) (b : Nat × Nat) : Int := (S.o.preds.getD b.1 ⟨⟨#[]⟩, 0, 0⟩).entry
def badBegins (S : AS) : List (Nat × Nat) → List Nat
  | [] => []
  | [b] => if (S.o.code.length : Int) ≤ entryAt S b then [b.2] else []
  | b :: c :: r => (if (S.o.code.length : Int) ≤ entryAt S b ∨ entryAt S c = entryAt S b then [b.2] else []) ++ badBegins S (c :: r)
def wrongs (S : AS) : List (Int × Nat) := (S.uses.filter (badUse S)).map (fun u => ((10 : Int), u.2.2)) ++ (badBegins S S.begins).map fun n => ((7 : Int), n)
/-- The first of the least line. -/
def least : Int × Int → List (Int × Nat) → Int × Int
  | e, [] => e
  | e, (f, n) :: r => least (if e.2 < 0 ∨ (n : Int) < e.2 then (f, (n : Int)) else e) r
def setArg (i : LIns) (k : Nat) (v : Int) : LIns := if k = 0 then { i with a0 := v } else if k = 1 then { i with a1 := v } else if k = 2 then { i with a2 := v } else { i with a3 := v }
def settleP (S : AS) : LObj := S.uses.foldl (fun o u => { o with code := o.code.modify u.1 fun i => setArg i u.2.1 (((useAt S u).getD 0 : Nat) : Int) }) S.o
def programP (l : List Txt) : LObj × Int × Int :=
  let r := linesP AS0 0 l
  if r.2.1 ≠ 0 then (⟨[], [], [], []⟩, r.2.1, r.2.2)
  else
    let e := least (0, -1) (wrongs r.1)
    if e.1 ≠ 0 then (⟨[], [], [], []⟩, e.1, e.2) else (settleP r.1, 0, -1)
/-! ### The two spellings of a number -/
theorem numT_spell {w : Txt} (h : 0 ≤ numT w) : Lib.decDigits (numT w).toNat = w := by
  unfold numT at h ⊢
  split
  · rename_i h1; rw [if_pos h1] at h; omega
  · rename_i h1
    rw [if_neg h1] at h
    split
    · rename_i h2; rw [if_pos h2] at h; omega
    · rename_i h2
      rw [if_neg h2] at h
      split
      · rename_i h3; simpa using h3
      · rename_i h3; rw [if_neg h3] at h; omega
/-- The program's number is the document's. -/
theorem numM_atoi (w : Txt) (most : Int) (hm : most ≤ 65535) : numM w most = match Lib.atoiAll w with
    | .ok v => if v < 0 ∨ most < v ∨ Lib.decDigits v.toNat ≠ w then -1 else v
    | _ => -1 := by
  by_cases h : 0 ≤ numT w ∧ numT w ≤ most
  · have h1 := numT_spell h.1
    have h2 : Lib.atoiAll w = .ok (numT w) := by
      rw [← h1, atoi_digits (by omega), h1]
      congr 1
      omega
    unfold numM
    rw [if_pos h, h2]
    simp only
    rw [if_neg (by rintro (h3 | h3 | h3) <;> first | omega | exact h3 h1)]
  · unfold numM
    rw [if_neg h]
    cases hv : Lib.atoiAll w with
    | ok v =>
      simp only
      split
      · rfl
      · rename_i hn
        exfalso
        refine h ?_
        have h0 : 0 ≤ v := Int.not_lt.1 fun e => hn (.inl e)
        have h1 : v ≤ most := Int.not_lt.1 fun e => hn (.inr (.inl e))
        have h2 : Lib.decDigits v.toNat = w := Classical.byContradiction fun e => hn (.inr (.inr e))
        have h3 : numT w = v := by rw [← h2, numT_digits (by omega)]; omega
        omega
    | _ => rfl
/-! ### What is wrong first: by lines -/
theorem findSome_congr {α β : Type} {f g : α → Option β} : ∀ {l : List α}, (∀ a ∈ l, f a = g a) → l.findSome? f = l.findSome? g
  | [], _ => rfl
  | a :: l, h => by rw [List.findSome?_cons, List.findSome?_cons, h a (by simp), findSome_congr fun b hb => h b (by simp [hb])]
theorem least_from : ∀ (l : List (Int × Nat)) (f : Int) (m : Nat), least (f, (m : Int)) l = match (List.range m).findSome? (fun i => l.find? fun x => x.2 == i) with
    | some x => (x.1, (x.2 : Int))
    | none => (f, (m : Int))
  | [], f, m => by
    rw [least, List.findSome?_eq_none_iff.2 (fun i _ => by simp)]
  | (g, n) :: r, f, m => by
    rw [least]
    by_cases h : n < m
    · rw [if_pos (by right; simp only; omega), least_from r g n]
      have hm : List.range m = List.range n ++ (n :: (List.range (m - n - 1)).map (n + 1 + ·)) := by
        have e : m = n + (1 + (m - n - 1)) := by omega
        rw [e, List.range_add, List.range_add, Nat.add_sub_cancel_left, Nat.add_sub_cancel_left]
        simp [Function.comp_def, Nat.add_assoc]
      have hlow : (List.range n).findSome? (fun i => ((g, n) :: r).find? fun x => x.2 == i) = (List.range n).findSome? (fun i => r.find? fun x => x.2 == i) := by
        refine findSome_congr fun i hi => ?_
        have hi' : i < n := List.mem_range.1 hi
        rw [List.find?_cons]
        have : (n == i) = false := by simp; omega
        simp only [this]
      rw [hm, List.findSome?_append, hlow]
      cases (List.range n).findSome? (fun i => r.find? fun x => x.2 == i) with
      | some x => rfl
      | none => simp
    · rw [if_neg (by simp only; omega), least_from r f m]
      have hlow : (List.range m).findSome? (fun i => ((g, n) :: r).find? fun x => x.2 == i) = (List.range m).findSome? (fun i => r.find? fun x => x.2 == i) := by
        refine findSome_congr fun i hi => ?_
        have hi' : i < m := List.mem_range.1 hi
        rw [List.find?_cons]
        have : (n == i) = false := by simp; omega
        simp only [this]
      rw [hlow]
end Go.Proofs.YtpcihhdalofdiaaGreatDoor

/- Lines of objects: the plain law of layer 9 (Lines). No program in sight. A draft: nothing of it is joined to a walk yet. -/
namespace Go.Proofs.YtpcihhdalofdiaaGreatDoor

def bT (s : ByteArray) : Txt := s.data.toList
/-- A name with a number behind a slash. -/
def slT (f : LFun) : Txt := bT f.name ++ 47 :: Lib.decDigits f.arity.toNat
/-- An operand as a word of a line. -/
def wordT (o : LObj) (k : Nat) (n : Int) : Txt :=
  if k = 3 then bT (o.atoms.getD n.toNat ⟨#[]⟩)
  else if k = 4 then slT (o.funs.getD n.toNat ⟨⟨#[]⟩, 0⟩)
  else if k = 7 then slT ⟨(o.preds.getD n.toNat ⟨⟨#[]⟩, 0, 0⟩).name, (o.preds.getD n.toNat ⟨⟨#[]⟩, 0, 0⟩).arity⟩
  else if k = 8 then (if n = 65535 then [45] else 64 :: Lib.decDigits n.toNat)
  else opTxt k n.toNat
/-- An instruction as a line. -/
def textT (o : LObj) (i : LIns) : Txt := joinT (nameT i.op :: (List.range (kindsOf i.op).length).map fun j => wordT o ((kindsOf i.op).getD j 0).toNat (i.arg j))
/-- Is a place a label? -/
def targetB (o : LObj) (n : Nat) : Bool := o.code.any fun i => (List.range (kindsOf i.op).length).any fun j => (kindsOf i.op).getD j 0 == 8 && i.arg j == (n : Int)
def lineT (o : LObj) (n : Nat) (i : LIns) : List Txt :=
  (match o.preds.find? fun p => p.entry == (n : Int) with
    | some p => [predW ++ 32 :: slT ⟨p.name, p.arity⟩]
    | none => []) ++ ((if targetB o n then [64 :: Lib.decDigits n] else []) ++ [textT o i])
def linesFrom (o : LObj) : Nat → List LIns → List Txt
  | _, [] => []
  | n, i :: r => lineT o n i ++ linesFrom o (n + 1) r
/-- The lines of an object that may be. -/
def linesT (o : LObj) : List Txt := linesFrom o 0 o.code
/-! ### A name and a number are told again by their line -/
theorem numM_digits {n : Nat} {most : Int} (h : (n : Int) ≤ most) (hm : most ≤ 65535) : numM (Lib.decDigits n) most = n := by
  have h1 := numT_digits (n := n) (by omega)
  unfold numM
  rw [h1, if_pos ⟨by omega, h⟩]
theorem cutT_at {a b : Txt} (h : 47 ∉ a) : cutT (a ++ 47 :: b) = (a, b) := by
  have h1 : ∀ c ∈ a, (c != 47) = true := fun c hc => by
    simp only [bne_iff_ne, ne_eq]
    rintro rfl
    exact h hc
  unfold cutT
  rw [List.takeWhile_append_of_pos h1, List.dropWhile_append_of_pos h1]
  simp
theorem name_letters {s : ByteArray} (h : nameOk s = true) : ∀ c ∈ bT s, 48 ≤ c.toNat ∧ c.toNat ≤ 122 ∧ c ≠ 91 ∧ (c.toNat ≤ 57 ∨ 97 ≤ c.toNat) := by
  simp only [nameOk, Bool.and_eq_true, decide_eq_true_eq, List.all_eq_true] at h
  intro c hc
  have h4 := h.2 (c.toNat : Int) (by unfold bytesOf; exact List.mem_map.2 ⟨c, hc, rfl⟩)
  simp only [isSmall, isDigit, Bool.or_eq_true, Bool.and_eq_true, decide_eq_true_eq] at h4
  refine ⟨by omega, by omega, ?_, by omega⟩
  rintro rfl
  simp at h4
theorem name_no {s : ByteArray} (h : nameOk s = true) {c : UInt8} (hc : c.toNat < 48) : c ∉ bT s := fun hm => by
  have := (name_letters h c hm).1
  omega
theorem slash_at {f : LFun} {least : Int} (h : nameOk f.name = true) (h0 : 0 ≤ f.arity) (h8 : f.arity ≤ 8) (hl : least ≤ f.arity) : slashP (slT f) least = some f := by
  have hw : wdB (bT f.name) = f.name := rfl
  obtain ⟨nm, ar⟩ := f
  obtain ⟨n, rfl⟩ := Int.eq_ofNat_of_zero_le h0
  unfold slashP slT
  rw [cutT_at (name_no h (by decide)), Int.toNat_natCast, numM_digits h8 (by omega), hw, if_pos ⟨h, hl⟩]
theorem label_at {n : Nat} (h : n ≤ 1023) : labelP (64 :: Lib.decDigits n) = n := numM_digits (by omega) (by omega)
end Go.Proofs.YtpcihhdalofdiaaGreatDoor

/- What lines make is right: the plain law of layer 9, its start. No program in sight. A draft. -/
namespace Go.Proofs.YtpcihhdalofdiaaGreatDoor

theorem idxL_at {α : Type} [DecidableEq α] (l : List α) (x : α) : (idxL l x)[idxA l x]? = some x := by
  unfold idxL idxA
  by_cases h : x ∈ l
  · rw [if_pos h, if_pos h]
    have h1 := List.idxOf_lt_length_iff.2 h
    rw [List.getElem?_eq_getElem h1, List.getElem_idxOf]
  · rw [if_neg h, if_neg h]
    simp
theorem idxL_pre {α : Type} [DecidableEq α] (l : List α) (x : α) : l <+: idxL l x := by
  unfold idxL
  split
  · exact List.prefix_refl _
  · exact List.prefix_append _ _
theorem idxL_mem {α : Type} [DecidableEq α] {l : List α} {x y : α} (h : y ∈ idxL l x) : y ∈ l ∨ y = x := by
  unfold idxL at h
  split at h
  · exact .inl h
  · rcases List.mem_append.1 h with h | h
    · exact .inl h
    · exact .inr (by simpa using h)
theorem idxL_nodup {α : Type} [DecidableEq α] {l : List α} (h : l.Nodup) (x : α) : (idxL l x).Nodup := by
  unfold idxL
  split
  · exact h
  · rename_i hn
    refine List.nodup_append.2 ⟨h, by simp, fun a ha b hb => ?_⟩
    obtain rfl := List.mem_singleton.1 hb
    rintro rfl
    exact hn ha
/-- A slash's name and number. -/
theorem slash_ok {w : Txt} {k : Int} {f : LFun} (h : slashP w k = some f) : nameOk f.name = true ∧ k ≤ f.arity ∧ f.arity ≤ 8 := by
  unfold slashP at h
  split at h
  · rename_i hc
    obtain rfl := Option.some.inj h
    refine ⟨hc.1, hc.2, ?_⟩
    simp only
    unfold numM
    split <;> omega
  · cases h
/-- The tables of what comes to be. -/
structure TabOk (o : LObj) : Prop where
  atoms : ∀ s ∈ o.atoms, nameOk s = true
  funs : ∀ f ∈ o.funs, nameOk f.name = true ∧ 1 ≤ f.arity ∧ f.arity ≤ 8
  preds : ∀ p ∈ o.preds, nameOk p.name = true ∧ 0 ≤ p.arity ∧ p.arity ≤ 8
  one : o.atoms.Nodup
  two : o.funs.Nodup
  three : (o.preds.map fun p => (⟨p.name, p.arity⟩ : LFun)).Nodup
theorem TabOk.start : TabOk ⟨[], [], [], []⟩ := ⟨by simp, by simp, by simp, by simp, by simp, by simp⟩
theorem TabOk.pred {o : LObj} (h : TabOk o) {f : LFun} (hf : nameOk f.name = true ∧ 0 ≤ f.arity ∧ f.arity ≤ 8) : TabOk (predP o f).1 := by
  unfold predP
  split
  · exact h
  · rename_i hn
    refine ⟨h.atoms, h.funs, fun p hp => ?_, h.one, h.two, ?_⟩
    · rcases List.mem_append.1 hp with hp | hp
      · exact h.preds p hp
      · obtain rfl := List.mem_singleton.1 hp
        exact hf
    · simp only [List.map_append, List.map_cons, List.map_nil]
      refine List.nodup_append.2 ⟨h.three, by simp, fun a ha b hb => ?_⟩
      obtain rfl := List.mem_singleton.1 hb
      obtain ⟨p, hp, rfl⟩ := List.mem_map.1 ha
      have := List.findIdx?_eq_none_iff.1 hn p hp
      simp only [Bool.and_eq_false_iff, decide_eq_false_iff_not] at this
      intro e
      injection e with e1 e2
      rcases this with h1 | h1
      · exact h1 e1
      · exact h1 e2
theorem TabOk.operand {o : LObj} (h : TabOk o) {op : Int} {k : Nat} {w : Txt} (hf : fitsP op k w = true) : TabOk (operandP o k w).1 := by
  unfold operandP
  unfold fitsP at hf
  split
  · rename_i h3
    rw [if_pos h3] at hf
    refine ⟨fun s hs => ?_, h.funs, h.preds, idxL_nodup h.one _, h.two, h.three⟩
    rcases idxL_mem hs with hs | rfl
    · exact h.atoms s hs
    · exact hf
  · rename_i h3
    rw [if_neg h3] at hf
    split
    · split
      · rename_i f hs
        refine ⟨h.atoms, fun g hg => ?_, h.preds, h.one, idxL_nodup h.two _, h.three⟩
        rcases idxL_mem hg with hg | rfl
        · exact h.funs g hg
        · exact slash_ok hs
      · exact h
    · split
      · split
        · rename_i f hs
          exact h.pred (slash_ok hs)
        · exact h
      · split <;> exact h
theorem TabOk.operands {op : Int} {n at_ : Nat} : ∀ (l : List (Nat × Txt)) (o : LObj) (j : Nat), TabOk o → (l.all fun x => fitsP op x.1 x.2) = true → TabOk (operandsP n at_ o j l).1
  | [], o, j, h, _ => h
  | (k, w) :: r, o, j, h, hf => by
    rw [List.all_cons, Bool.and_eq_true] at hf
    rw [operandsP]
    exact TabOk.operands r _ _ (h.operand hf.1) hf.2
/-- Another entry, the same predicates. -/
theorem TabOk.entry {o : LObj} (h : TabOk o) (i : Nat) (e : Int) : TabOk { o with preds := o.preds.modify i fun p => { p with entry := e } } := by
  have hm : ∀ (l : List LPred) (i : Nat), (l.modify i fun p => { p with entry := e }).map (fun p => (⟨p.name, p.arity⟩ : LFun)) = l.map fun p => (⟨p.name, p.arity⟩ : LFun) := by
    intro l
    induction l with
    | nil => intro i; simp
    | cons a l ih => intro i; cases i with
      | zero => simp
      | succ i => simp [ih]
  refine ⟨h.atoms, h.funs, fun p hp => ?_, h.one, h.two, by rw [hm]; exact h.three⟩
  have h1 : (⟨p.name, p.arity⟩ : LFun) ∈ o.preds.map fun p => (⟨p.name, p.arity⟩ : LFun) := by
    rw [← hm o.preds i]
    exact List.mem_map.2 ⟨p, hp, rfl⟩
  obtain ⟨q, hq, he⟩ := List.mem_map.1 h1
  injection he with e1 e2
  have := h.preds q hq
  rw [e1, e2] at this
  exact this
theorem TabOk.code {o : LObj} (h : TabOk o) (c : List LIns) : TabOk { o with code := c } := ⟨h.atoms, h.funs, h.preds, h.one, h.two, h.three⟩
theorem TabOk.line {S : AS} (h : TabOk S.o) (s : Txt) (n : Nat) : TabOk (lineP S s n).1.o := by
  unfold lineP
  split
  · unfold beginP
    split
    · exact h
    · rename_i f hs
      simp only
      split
      · exact h
      · exact (h.pred (slash_ok hs)).entry _ _
  · split
    · unfold markP
      split
      · exact h
      · split
        · exact h
        · exact h
    · unfold instrP
      simp only
      split
      · exact h
      · rename_i hc
        have hall := Classical.byContradiction fun e => hc (.inr (.inr (Bool.not_eq_true _ ▸ e)))
        exact (TabOk.operands _ _ _ h hall).code _
theorem TabOk.lines : ∀ (l : List Txt) (S : AS) (n : Nat), TabOk S.o → TabOk (linesP S n l).1.o
  | [], S, n, h => h
  | s :: l, S, n, h => by
    rw [linesP]
    split
    · exact h
    · split
      · exact h
      · exact TabOk.lines l _ _ (h.line s n)
theorem TabOk.settle {S : AS} (h : TabOk S.o) : TabOk (settleP S) := by
  unfold settleP
  generalize S.uses = l
  have key : ∀ (l : List (Nat × Nat × Nat)) (o : LObj), TabOk o → TabOk (l.foldl (fun o u => { o with code := o.code.modify u.1 fun i => setArg i u.2.1 (((useAt S u).getD 0 : Nat) : Int) }) o) := by
    intro l
    induction l with
    | nil => intro o h; exact h
    | cons u l ih => intro o h; exact ih _ (h.code _)
  exact key l _ h
/-- What lines make has right tables. -/
theorem program_tab (l : List Txt) : TabOk (programP l).1 := by
  unfold programP
  simp only
  split
  · exact TabOk.start
  · split
    · exact TabOk.start
    · exact (TabOk.lines l AS0 0 TabOk.start).settle
/-! ### No table has too much; an operand is in range -/
theorem lines_few : ∀ (l : List Txt) (S : AS) (n : Nat), fullP S.o = false → fullP (linesP S n l).1.o = false
  | [], S, n, h => h
  | s :: l, S, n, h => by
    rw [linesP]
    split
    · exact h
    · split
      · exact h
      · rename_i h2
        exact lines_few l _ _ (by simpa using h2)
theorem idxI_lt {α : Type} [DecidableEq α] (l : List α) (x : α) : idxA l x < (idxL l x).length := (List.getElem?_eq_some_iff.1 (idxL_at l x)).1
theorem predP_lt (o : LObj) (f : LFun) : (predP o f).2 < (predP o f).1.preds.length := by
  unfold predP
  split
  · rename_i k hk
    exact (List.findIdx?_eq_some_iff_getElem.1 hk).1
  · simp
theorem numM_le {w : Txt} {m : Int} (h : 0 ≤ m) : -1 ≤ numM w m ∧ numM w m ≤ m := by
  unfold numM
  split <;> omega
theorem labelP_le (w : Txt) : -1 ≤ labelP w ∧ labelP w ≤ 1023 := by
  unfold labelP
  split
  · exact numM_le (by omega)
  · omega
structure OpIn (o : LObj) (op : Int) (k : Nat) (n : Int) : Prop where
  low : 0 ≤ n
  atom : k = 3 → n < o.atoms.length
  fun_ : k = 4 → n < o.funs.length
  pred : k = 7 → n < o.preds.length
  label : k = 8 → n ≤ 1023 ∨ (n = 65535 ∧ op = 26)
theorem operand_in (o : LObj) {op : Int} {k : Nat} {w : Txt} (hf : fitsP op k w = true) : OpIn (operandP o k w).1 op k (operandP o k w).2 := by
  unfold operandP
  unfold fitsP at hf
  split
  · rename_i h3
    have := idxI_lt o.atoms (wdB w)
    exact ⟨by simp only; omega, fun _ => by simp only; omega, fun _ => by omega, fun _ => by omega, fun _ => by omega⟩
  · rename_i h3
    rw [if_neg h3] at hf
    split
    · rename_i h4
      rw [if_pos h4] at hf
      cases hs : slashP w 1 with
      | none => rw [hs] at hf; cases hf
      | some f =>
        have := idxI_lt o.funs f
        exact ⟨by simp only; omega, fun _ => by omega, fun _ => by simp only; omega, fun _ => by omega, fun _ => by omega⟩
    · rename_i h4
      rw [if_neg h4] at hf
      split
      · rename_i h7
        rw [if_pos h7] at hf
        cases hs : slashP w 0 with
        | none => rw [hs] at hf; cases hf
        | some f =>
          have := predP_lt o f
          exact ⟨by simp only; omega, fun _ => by omega, fun _ => by omega, fun _ => by simp only; omega, fun _ => by omega⟩
      · rename_i h7
        rw [if_neg h7] at hf
        split
        · rename_i h8
          rw [if_pos h8] at hf
          simp only [Bool.or_eq_true, decide_eq_true_eq, Bool.and_eq_true, beq_iff_eq] at hf
          have := labelP_le w
          by_cases hw : w = [45]
          · rw [if_pos hw]
            subst hw
            have h9 : labelP [45] = -1 := rfl
            exact ⟨by simp only; omega, fun _ => by omega, fun _ => by omega, fun _ => by omega, fun _ => .inr ⟨rfl, (hf.resolve_left (by omega)).1⟩⟩
          · rw [if_neg hw]
            exact ⟨hf.resolve_right fun e => hw e.2, fun _ => by omega, fun _ => by omega, fun _ => by omega, fun _ => .inl (by simp only; omega)⟩
        · rename_i h8
          rw [if_neg h8] at hf
          exact ⟨by simpa using hf, fun _ => by omega, fun _ => by omega, fun _ => by omega, fun _ => by omega⟩
/-- Tables only grow. -/
structure TabLe (o o' : LObj) : Prop where
  atoms : o.atoms <+: o'.atoms
  funs : o.funs <+: o'.funs
  preds : o.preds.length ≤ o'.preds.length
theorem TabLe.refl (o : LObj) : TabLe o o := ⟨List.prefix_refl _, List.prefix_refl _, Nat.le_refl _⟩
theorem TabLe.trans {a b c : LObj} (h : TabLe a b) (k : TabLe b c) : TabLe a c := ⟨h.atoms.trans k.atoms, h.funs.trans k.funs, Nat.le_trans h.preds k.preds⟩
theorem OpIn.mono {o o' : LObj} {op : Int} {k : Nat} {n : Int} (h : OpIn o op k n) (l : TabLe o o') : OpIn o' op k n := by
  have h1 := l.atoms.length_le
  have h2 := l.funs.length_le
  have h3 := l.preds
  exact ⟨h.low, fun e => by have := h.atom e; omega, fun e => by have := h.fun_ e; omega, fun e => by have := h.pred e; omega, h.label⟩
theorem predP_le (o : LObj) (f : LFun) : TabLe o (predP o f).1 := by
  unfold predP
  split
  · exact TabLe.refl o
  · exact ⟨List.prefix_refl _, List.prefix_refl _, by simp⟩
theorem operandP_le (o : LObj) (k : Nat) (w : Txt) : TabLe o (operandP o k w).1 := by
  unfold operandP
  split
  · exact ⟨idxL_pre _ _, List.prefix_refl _, Nat.le_refl _⟩
  · split
    · split
      · exact ⟨List.prefix_refl _, idxL_pre _ _, Nat.le_refl _⟩
      · exact TabLe.refl o
    · split
      · split
        · exact predP_le o _
        · exact TabLe.refl o
      · split <;> exact TabLe.refl o
theorem operandsP_le {n at_ : Nat} : ∀ (l : List (Nat × Txt)) (o : LObj) (j : Nat), TabLe o (operandsP n at_ o j l).1
  | [], o, _ => TabLe.refl o
  | (k, w) :: r, o, j => by
    rw [operandsP]
    exact (operandP_le o k w).trans (operandsP_le r _ _)
/-- All operands of a line are in range. -/
theorem operands_in {op : Int} {n at_ : Nat} : ∀ (l : List (Nat × Txt)) (o : LObj) (j : Nat), (l.all fun x => fitsP op x.1 x.2) = true → (operandsP n at_ o j l).2.1.length = l.length ∧ ∀ (i : Nat) (x : Nat × Txt) (v : Int), l[i]? = some x → (operandsP n at_ o j l).2.1[i]? = some v → OpIn (operandsP n at_ o j l).1 op x.1 v
  | [], o, _, _ => ⟨rfl, fun i x v hx => by simp at hx⟩
  | (k, w) :: r, o, j, hf => by
    rw [List.all_cons, Bool.and_eq_true] at hf
    obtain ⟨g1, g2⟩ := operands_in (n := n) (at_ := at_) r (operandP o k w).1 (j + 1) hf.2
    rw [operandsP]
    simp only
    refine ⟨by rw [List.length_cons, List.length_cons, g1], fun i x v hx hv => ?_⟩
    cases i with
    | zero =>
      simp only [List.getElem?_cons_zero, Option.some.injEq] at hx hv
      subst hx
      subst hv
      exact (operand_in o hf.1).mono (operandsP_le r _ _)
    | succ i =>
      simp only [List.getElem?_cons_succ] at hx hv
      exact g2 i x v hx hv
/-! ### The code -/
def CodeIn (o : LObj) : Prop := ∀ i ∈ o.code, 0 ≤ i.op ∧ ∀ j, j < (kindsOf i.op).length → OpIn o i.op ((kindsOf i.op).getD j 0).toNat (i.arg j)
theorem CodeIn.mono {o o' : LObj} (h : CodeIn o) (l : TabLe o o') (hc : o'.code = o.code) : CodeIn o' := fun i hi => by
  rw [hc] at hi
  exact ⟨(h i hi).1, fun j hj => ((h i hi).2 j hj).mono l⟩
theorem operandP_code (o : LObj) (k : Nat) (w : Txt) : (operandP o k w).1.code = o.code := by
  unfold operandP predP
  split
  · rfl
  · split
    · split <;> rfl
    · split
      · split
        · split <;> rfl
        · rfl
      · split <;> rfl
theorem operandsP_code {n at_ : Nat} : ∀ (l : List (Nat × Txt)) (o : LObj) (j : Nat), (operandsP n at_ o j l).1.code = o.code
  | [], o, _ => rfl
  | (k, w) :: r, o, j => by
    rw [operandsP]
    exact (operandsP_code r _ _).trans (operandP_code o k w)
theorem predP_code (o : LObj) (f : LFun) : (predP o f).1.code = o.code := by
  unfold predP
  split <;> rfl
theorem CodeIn.instr {S : AS} (h : CodeIn S.o) (w : List Txt) (n : Nat) : CodeIn (instrP S w n).1.o := by
  unfold instrP
  simp only
  split
  · exact h
  · rename_i hc
    have hop : ¬ namedT (w.headD []) < 0 := fun e => hc (.inl e)
    have hlen : w.length = ((kindsOf (namedT (w.headD []))).map Int.toNat).length + 1 := Classical.byContradiction fun e => hc (.inr (.inl e))
    have hall := Classical.byContradiction fun e => hc (.inr (.inr (Bool.not_eq_true _ ▸ e)))
    generalize namedT (w.headD []) = op at hop hlen hall ⊢
    obtain ⟨g1, g2⟩ := operands_in (n := S.o.code.length) (at_ := n) _ S.o 0 hall
    have hle := operandsP_le (n := S.o.code.length) (at_ := n) (((kindsOf op).map Int.toNat).zip w.tail) S.o 0
    have hcd := operandsP_code (n := S.o.code.length) (at_ := n) (((kindsOf op).map Int.toNat).zip w.tail) S.o 0
    generalize operandsP S.o.code.length n S.o 0 (((kindsOf op).map Int.toNat).zip w.tail) = q at g1 g2 hle hcd ⊢
    intro i hi
    rcases List.mem_append.1 hi with hi | hi
    · obtain ⟨k1, k2⟩ := (h.mono hle hcd) i hi
      exact ⟨k1, fun j hj => (k2 j hj).mono ⟨List.prefix_refl _, List.prefix_refl _, Nat.le_refl _⟩⟩
    · obtain rfl := List.mem_singleton.1 hi
      refine ⟨Int.not_lt.1 hop, fun j hj => ?_⟩
      have hj' : j < (kindsOf op).length := hj
      have hfew := kinds_few op
      rw [List.length_map] at hlen
      have hz : (((kindsOf op).map Int.toNat).zip w.tail).length = (kindsOf op).length := by simp; omega
      have hx := List.getElem?_eq_getElem (l := ((kindsOf op).map Int.toNat).zip w.tail) (i := j) (by omega)
      have hv := List.getElem?_eq_getElem (l := q.2.1) (i := j) (by omega)
      have h5 := g2 j _ _ hx hv
      have h6 : (insW op q.2.1).arg j = q.2.1[j]'(by omega) := by
        rw [insW_arg op q.2.1 (by omega), List.getD_eq_getElem?_getD, hv]
        rfl
      have h7 : ((((kindsOf op).map Int.toNat).zip w.tail)[j]'(by omega)).1 = ((kindsOf op).getD j 0).toNat := by
        rw [List.getElem_zip, List.getD_eq_getElem?_getD, List.getElem?_eq_getElem hj']
        simp
      rw [h7] at h5
      show OpIn _ op _ ((insW op q.2.1).arg j)
      rw [h6]
      exact h5.mono ⟨List.prefix_refl _, List.prefix_refl _, Nat.le_refl _⟩
theorem CodeIn.line {S : AS} (h : CodeIn S.o) (s : Txt) (n : Nat) : CodeIn (lineP S s n).1.o := by
  unfold lineP
  split
  · unfold beginP
    split
    · exact h
    · rename_i f hs
      simp only
      split
      · exact h
      · refine (h.mono (predP_le S.o f) (predP_code S.o f)).mono ⟨List.prefix_refl _, List.prefix_refl _, ?_⟩ rfl
        simp
  · split
    · unfold markP
      split
      · exact h
      · split
        · exact h
        · exact h
    · exact h.instr _ _
theorem CodeIn.lines : ∀ (l : List Txt) (S : AS) (n : Nat), CodeIn S.o → CodeIn (linesP S n l).1.o
  | [], S, n, h => h
  | s :: l, S, n, h => by
    rw [linesP]
    split
    · exact h
    · split
      · exact h
      · exact CodeIn.lines l _ _ (h.line s n)
end Go.Proofs.YtpcihhdalofdiaaGreatDoor

/- Small laws for the walks of layer 9. No program in sight. -/
namespace Go.Proofs.YtpcihhdalofdiaaGreatDoor

/-- One more operand. -/
theorem operandsP_snoc (n at_ : Nat) (k : Nat) (w : Txt) : ∀ (l : List (Nat × Txt)) (o : LObj) (j : Nat), operandsP n at_ o j (l ++ [(k, w)]) =
    ((operandP (operandsP n at_ o j l).1 k w).1, (operandsP n at_ o j l).2.1 ++ [(operandP (operandsP n at_ o j l).1 k w).2],
      (operandsP n at_ o j l).2.2 ++ (if k = 8 ∧ (operandP (operandsP n at_ o j l).1 k w).2 ≠ 65535 then [(n, j + l.length, at_)] else []))
  | [], o, j => by simp only [List.nil_append, operandsP, List.append_nil, List.length_nil, Nat.add_zero]; congr
  | (k', w') :: l, o, j => by
    rw [List.cons_append, operandsP, operandsP_snoc n at_ k w l _ (j + 1), operandsP]
    simp [Nat.add_assoc, Nat.add_comm 1]
theorem operandsP_nil (n at_ : Nat) (o : LObj) (j : Nat) : operandsP n at_ o j [] = (o, [], []) := rfl
theorem operandsP_len (n at_ : Nat) : ∀ (l : List (Nat × Txt)) (o : LObj) (j : Nat), (operandsP n at_ o j l).2.1.length = l.length
  | [], _, _ => rfl
  | (k, w) :: l, o, j => by rw [operandsP]; simp [operandsP_len n at_ l]
theorem idxL_len {α : Type} [DecidableEq α] (l : List α) (x : α) : (idxL l x).length ≤ l.length + 1 := by
  unfold idxL
  split <;> simp
/-- How much longer the tables are. -/
structure Grows (o o' : LObj) (n : Nat) : Prop where
  atoms : o'.atoms.length ≤ o.atoms.length + n
  funs : o'.funs.length ≤ o.funs.length + n
  preds : o'.preds.length ≤ o.preds.length + n
  code : o'.code = o.code
theorem predP_grows (o : LObj) (f : LFun) : Grows o (predP o f).1 1 := by
  unfold predP
  split
  · exact ⟨by simp, by simp, by simp, rfl⟩
  · exact ⟨by simp, by simp, by simp, rfl⟩
theorem operandP_grows (o : LObj) (k : Nat) (w : Txt) : Grows o (operandP o k w).1 1 := by
  have z : Grows o o 1 := ⟨by omega, by omega, by omega, rfl⟩
  unfold operandP
  split
  · exact ⟨idxL_len _ _, by simp, by simp, rfl⟩
  · split
    · split
      · exact ⟨by simp, idxL_len _ _, by simp, rfl⟩
      · exact z
    · split
      · split
        · exact predP_grows o _
        · exact z
      · split <;> exact z
theorem operandsP_grows (n at_ : Nat) : ∀ (l : List (Nat × Txt)) (o : LObj) (j : Nat), Grows o (operandsP n at_ o j l).1 l.length
  | [], o, _ => ⟨by simp [operandsP], by simp [operandsP], by simp [operandsP], rfl⟩
  | (k, w) :: l, o, j => by
    have h1 := operandP_grows o k w
    have h2 := operandsP_grows n at_ l (operandP o k w).1 (j + 1)
    rw [operandsP]
    have a1 := h1.atoms
    have a2 := h1.funs
    have a3 := h1.preds
    have b1 := h2.atoms
    have b2 := h2.funs
    have b3 := h2.preds
    simp only [List.length_cons]
    exact ⟨by omega, by omega, by omega, h2.code.trans h1.code⟩
/-- The document's look for the first, as a list's place. -/
theorem findI_idx {α : Type} (p : α → Bool) (l : List α) : findI p l = match l.findIdx? p with
    | some k => (k : Int)
    | none => -1 := by
  unfold findI
  cases h : l.findIdx? p with
  | none =>
    rw [if_neg]
    rw [List.findIdx?_eq_none_iff] at h
    simp only [List.any_eq_true, not_exists, not_and, Bool.not_eq_true]
    exact h
  | some k =>
    have h1 := List.findIdx?_eq_some_iff_findIdx_eq.1 h
    rw [if_pos]
    · simp only [h1.2]
    · refine List.any_eq_true.2 ⟨l[k]'h1.1, List.getElem_mem _, ?_⟩
      have h2 := List.findIdx?_eq_some_iff_getElem.1 h
      exact h2.2.1
theorem all_take {α : Type} {p : α → Bool} {l : List α} {j : Nat} {x : α} (hx : l[j]? = some x) (h : (l.take j).all p = true) (hp : p x = true) : (l.take (j + 1)).all p = true := by
  rw [List.take_add_one, hx, List.all_append, h]
  simp [hp]
theorem all_noA {α : Type} {p : α → Bool} {l : List α} {j : Nat} {x : α} (hx : l[j]? = some x) (hp : p x = false) : l.all p = false := by
  rw [List.all_eq_false]
  exact ⟨x, List.mem_of_getElem? hx, by simp [hp]⟩
theorem zip_at {α β : Type} {l : List α} {m : List β} {j : Nat} {x : α} {y : β} (h : l[j]? = some x) (k : m[j]? = some y) : (l.zip m)[j]? = some (x, y) := by
  rw [List.getElem?_zip_eq_some]
  exact ⟨h, k⟩
theorem take_snocA {α : Type} {l : List α} {j : Nat} {x : α} (h : l[j]? = some x) : l.take (j + 1) = l.take j ++ [x] := by
  rw [List.take_add_one, h]
  rfl
end Go.Proofs.YtpcihhdalofdiaaGreatDoor

/- Objects that may be, as their lines are told: plain facts. No program in sight. -/
namespace Go.Proofs.YtpcihhdalofdiaaGreatDoor

/-- What Check has looked at. -/
structure ObjOk (o : LObj) : Prop where
  big : bigO o = false
  atoms : ∀ s ∈ o.atoms, nameOk s = true
  funs : ∀ f ∈ o.funs, funOk f = true
  preds : ∀ p ∈ o.preds, predOk p = true
  dup : dupO o = false
  ents : entriesB o = true
  code : ∀ i ∈ o.code, insErr o i = 0
theorem codeErr_all {o : LObj} : ∀ {l : List LIns}, codeErr o l = 0 → ∀ i ∈ l, insErr o i = 0
  | [], _, i, hi => absurd hi (List.not_mem_nil)
  | x :: l, h, i, hi => by
    rw [codeErr] at h
    by_cases hx : insErr o x = 0
    · rw [if_pos hx] at h
      rcases List.mem_cons.1 hi with rfl | hi
      · exact hx
      · exact codeErr_all h i hi
    · rw [if_neg hx] at h
      exact absurd h hx
theorem codeErr_zero {o : LObj} : ∀ {l : List LIns}, (∀ i ∈ l, insErr o i = 0) → codeErr o l = 0
  | [], _ => rfl
  | x :: l, h => by rw [codeErr, if_pos (h x (by simp))]; exact codeErr_zero fun i hi => h i (by simp [hi])
theorem check_ok {o : LObj} (h : checkE o = 0) : ObjOk o := by
  unfold checkE at h
  split at h
  · cases h
  · rename_i h1
    split at h
    · cases h
    · rename_i h2
      split at h
      · cases h
      · rename_i h3
        split at h
        · cases h
        · rename_i h4
          have h2' : namedB o = true := by simpa using h2
          unfold namedB at h2'
          simp only [Bool.and_eq_true, List.all_eq_true] at h2'
          exact ⟨by simpa using h1, h2'.1, h2'.2.1, h2'.2.2, by simpa using h3, by simpa using h4, codeErr_all h⟩
theorem ok_check {o : LObj} (h : ObjOk o) : checkE o = 0 := by
  unfold checkE
  have h2 : namedB o = true := by
    unfold namedB
    simp only [Bool.and_eq_true, List.all_eq_true]
    exact ⟨h.atoms, h.funs, h.preds⟩
  rw [h.big, h2, h.dup, h.ents]
  simp [codeErr_zero h.code]
/-- An instruction's operand, in range. -/
structure ArgOk (o : LObj) (k : Nat) (n : Int) : Prop where
  low : 0 ≤ n ∧ n ≤ 65535
  atom : k = 3 → ∃ s, o.atoms[n.toNat]? = some s ∧ nameOk s = true
  fun_ : k = 4 → ∃ f, o.funs[n.toNat]? = some f ∧ funOk f = true
  pred : k = 7 → ∃ p, o.preds[n.toNat]? = some p ∧ predOk p = true
theorem ObjOk.ins {o : LObj} (h : ObjOk o) {i : LIns} (hi : i ∈ o.code) : insOk i = true ∧ ∀ (j q : Nat), (kindsOf i.op)[j]? = some (q : Int) → ArgOk o q (i.arg j) := by
  have h1 := h.code i hi
  unfold insErr at h1
  split at h1
  · cases h1
  · split at h1
    · cases h1
    · rename_i h2
      have hok : insOk i = true := by simpa using h2
      refine ⟨hok, fun j q hq => ?_⟩
      split at h1
      · rename_i hall
        have hj : j < (kindsOf i.op).length := (List.getElem?_eq_some_iff.1 hq).1
        have ha := List.all_eq_true.1 hall j (List.mem_range.2 hj)
        have hlow := insOk_arg6 hok hj
        unfold argHas at ha
        rw [List.getD_eq_getElem?_getD, hq] at ha
        simp only [Option.getD_some, Int.toNat_natCast] at ha
        unfold hasB at ha
        refine ⟨hlow, fun e => ?_, fun e => ?_, fun e => ?_⟩
        · subst e
          simp at ha
          have hn : (i.arg j).toNat < o.atoms.length := by omega
          exact ⟨_, List.getElem?_eq_getElem hn, h.atoms _ (List.getElem_mem _)⟩
        · subst e
          simp at ha
          have hn : (i.arg j).toNat < o.funs.length := by omega
          exact ⟨_, List.getElem?_eq_getElem hn, h.funs _ (List.getElem_mem _)⟩
        · subst e
          simp at ha
          have hn : (i.arg j).toNat < o.preds.length := by omega
          exact ⟨_, List.getElem?_eq_getElem hn, h.preds _ (List.getElem_mem _)⟩
      · cases h1
theorem slT_len {f : LFun} (h : nameOk f.name = true) (h8 : f.arity ≤ 65535) : (slT f).length ≤ 40 := by
  have h1 := nameOk_size h
  have h2 := (digits_len f.arity.toNat (by omega)).2
  have h3 : (bT f.name).length = f.name.size := rfl
  unfold slT
  rw [List.length_append, List.length_cons, h3]
  omega
theorem wordT_len {o : LObj} {k : Nat} {n : Int} (h : ArgOk o k n) : (wordT o k n).length ≤ 40 := by
  unfold wordT
  split
  · rename_i hk
    obtain ⟨s, hs, hn⟩ := h.atom hk
    have h3 : (bT s).length = s.size := rfl
    rw [List.getD_eq_getElem?_getD, hs]
    have := nameOk_size hn
    simp only [Option.getD_some]
    omega
  · split
    · rename_i hk
      obtain ⟨f, hf, hn⟩ := h.fun_ hk
      rw [List.getD_eq_getElem?_getD, hf]
      simp only [funOk, Bool.and_eq_true, decide_eq_true_eq] at hn
      exact slT_len hn.1 (by simp only [Option.getD_some]; omega)
    · split
      · rename_i hk
        obtain ⟨p, hp, hn⟩ := h.pred hk
        rw [List.getD_eq_getElem?_getD, hp]
        simp only [predOk, Bool.and_eq_true, decide_eq_true_eq] at hn
        exact slT_len hn.1 (by simp only [Option.getD_some]; omega)
      · have hl := h.low
        split
        · split
          · simp
          · have := (digits_len n.toNat (by omega)).2
            rw [List.length_cons]
            omega
        · have := opTxt_len (k := k) (n := n.toNat) (by omega)
          omega
/-- The words of an instruction's line. -/
def wordsT (o : LObj) (i : LIns) : List Txt := nameT i.op :: (List.range (kindsOf i.op).length).map fun j => wordT o ((kindsOf i.op).getD j 0).toNat (i.arg j)
theorem textT_is (o : LObj) (i : LIns) : textT o i = joinT (wordsT o i) := rfl
theorem wordsT_len (o : LObj) (i : LIns) : (wordsT o i).length = (kindsOf i.op).length + 1 := by simp [wordsT]
theorem wordsT_at {o : LObj} {i : LIns} {j q : Nat} (hy : (kindsOf i.op)[j]? = some (q : Int)) : (wordsT o i)[j + 1]? = some (wordT o q (i.arg j)) := by
  have hj := (List.getElem?_eq_some_iff.1 hy).1
  rw [wordsT, List.getElem?_cons_succ, List.getElem?_map, List.getElem?_range hj]
  simp only [Option.map_some]
  rw [List.getD_eq_getElem?_getD, hy]
  rfl
theorem wordsT_few {o : LObj} {i : LIns} (hok : insOk i = true) (h : ∀ (j q : Nat), (kindsOf i.op)[j]? = some (q : Int) → ArgOk o q (i.arg j)) : ∀ w ∈ wordsT o i, w.length ≤ 40 := by
  intro w hw
  obtain ⟨j, hj⟩ := List.getElem?_of_mem hw
  cases j with
  | zero =>
    have e : w = nameT i.op := by
      simp [wordsT] at hj
      exact hj.symm
    subst e
    exact Nat.le_trans (words_len hok _ (by simp [wordsOf])) (by omega)
  | succ j =>
    have hj2 := (List.getElem?_eq_some_iff.1 hj).1
    rw [wordsT_len] at hj2
    have hy : (kindsOf i.op)[j]? = some ((kindsOf i.op)[j]'(by omega)) := List.getElem?_eq_getElem (by omega)
    have hm := kinds_mem i.op _ (List.mem_of_getElem? hy)
    obtain ⟨q, hq⟩ := Int.eq_ofNat_of_zero_le (show 0 ≤ (kindsOf i.op)[j]'(by omega) by omega)
    rw [hq] at hy
    rw [wordsT_at hy] at hj
    obtain rfl := Option.some.inj hj
    exact wordT_len (h j q hy)
theorem words_texts {i : LIns} (h : insOk i = true) : splitT (insTxt i) = wordsOf i := by
  have h1 : insTxt i = joinT (wordsOf i) := if_pos h
  rw [h1]
  refine split_join _ (by simp [wordsOf]) fun w hw => ?_
  simp only [wordsOf, List.mem_cons, List.mem_map] at hw
  have hop : opIn i.op = true := by simp only [insOk, Bool.and_eq_true] at h; exact h.1
  rcases hw with rfl | ⟨j, _, rfl⟩
  · exact (name_op hop).2
  · exact opTxt_blank _ _
theorem insTxt_len {i : LIns} (h : insOk i = true) : (insTxt i).length ≤ 100 := by
  have h1 : insTxt i = joinT (wordsOf i) := if_pos h
  rw [h1]
  have h2 := joinT_len (wordsOf i) (words_len h)
  have h3 := words_count i
  have := Nat.mul_le_mul_right (10 + 1) h3
  omega
theorem textT_len {o : LObj} {i : LIns} (hok : insOk i = true) (h : ∀ (j q : Nat), (kindsOf i.op)[j]? = some (q : Int) → ArgOk o q (i.arg j)) : (textT o i).length ≤ 1000 := by
  rw [textT_is]
  have h2 := joinT_len (wordsT o i) (wordsT_few hok h)
  have h3 := wordsT_len o i
  have h4 := kinds_few i.op
  have := Nat.mul_le_mul_right (40 + 1) (show (wordsT o i).length ≤ 5 by omega)
  omega
end Go.Proofs.YtpcihhdalofdiaaGreatDoor

/- Labels become places: the plain law of settle, what the uses of labels are. No program in sight. -/
namespace Go.Proofs.YtpcihhdalofdiaaGreatDoor

theorem setArg_arg {i : LIns} {k j : Nat} {v : Int} (hk : k < 4) (hj : j < 4) : (setArg i k v).arg j = if j = k then v else i.arg j := by
  match k, hk, j, hj with
  | 0, _, 0, _ => rfl
  | 0, _, 1, _ => rfl
  | 0, _, 2, _ => rfl
  | 0, _, 3, _ => rfl
  | 1, _, 0, _ => rfl
  | 1, _, 1, _ => rfl
  | 1, _, 2, _ => rfl
  | 1, _, 3, _ => rfl
  | 2, _, 0, _ => rfl
  | 2, _, 1, _ => rfl
  | 2, _, 2, _ => rfl
  | 2, _, 3, _ => rfl
  | 3, _, 0, _ => rfl
  | 3, _, 1, _ => rfl
  | 3, _, 2, _ => rfl
  | 3, _, 3, _ => rfl
def noI : LIns := ⟨0, 0, 0, 0, 0⟩
/-- A use's label is put in, where it is right. -/
def putU (S : AS) (c : List LIns) (u : Nat × Nat × Nat) : List LIns := if badUse S u = true then c else c.modify u.1 fun i => setArg i u.2.1 (((useAt S u).getD 0 : Nat) : Int)
def codeK (S : AS) (k : Nat) : List LIns := (S.uses.take k).foldl (putU S) S.o.code
theorem codeK_zero (S : AS) : codeK S 0 = S.o.code := rfl
theorem codeK_succ {S : AS} {k : Nat} {u : Nat × Nat × Nat} (h : S.uses[k]? = some u) : codeK S (k + 1) = putU S (codeK S k) u := by
  unfold codeK
  rw [take_snocA h, List.foldl_append]
  rfl
theorem putU_len (S : AS) (c : List LIns) (u : Nat × Nat × Nat) : (putU S c u).length = c.length := by
  unfold putU
  split <;> simp
theorem fold_len (S : AS) : ∀ (l : List (Nat × Nat × Nat)) (c : List LIns), (l.foldl (putU S) c).length = c.length
  | [], _ => rfl
  | u :: l, c => by rw [List.foldl_cons, fold_len S l, putU_len]
theorem codeK_len (S : AS) (k : Nat) : (codeK S k).length = S.o.code.length := fold_len S _ _
theorem putU_arg {S : AS} {c : List LIns} {u : Nat × Nat × Nat} {a b : Nat} (hu : u.2.1 < 4) (hb : b < 4) (hne : (u.1, u.2.1) ≠ (a, b)) : ((putU S c u)[a]?).map (·.arg b) = (c[a]?).map (·.arg b) := by
  unfold putU
  split
  · rfl
  · rw [List.getElem?_modify]
    by_cases h1 : u.1 = a
    · cases hc : c[a]? with
      | none => rfl
      | some i =>
        simp only [h1, if_true]
        show some ((setArg i u.2.1 (((useAt S u).getD 0 : Nat) : Int)).arg b) = some (i.arg b)
        rw [setArg_arg hu hb, if_neg (fun e => hne (by rw [h1, e]))]
    · cases hc : c[a]? with
      | none => simp [h1]
      | some i => simp [h1]
theorem fold_arg (S : AS) {a b : Nat} (hb : b < 4) : ∀ (l : List (Nat × Nat × Nat)) (c : List LIns), (∀ u ∈ l, u.2.1 < 4 ∧ (u.1, u.2.1) ≠ (a, b)) → ((l.foldl (putU S) c)[a]?).map (·.arg b) = (c[a]?).map (·.arg b)
  | [], _, _ => rfl
  | u :: l, c, h => by
    rw [List.foldl_cons, fold_arg S hb l _ (fun x hx => h x (by simp [hx])), putU_arg (h u (by simp)).1 hb (h u (by simp)).2]
/-- What is known of the uses of labels. -/
structure UsesI (S : AS) : Prop where
  here : ∀ u ∈ S.uses, u.2.1 < 4 ∧ ∃ i, S.o.code[u.1]? = some i ∧ -1 ≤ i.arg u.2.1 ∧ i.arg u.2.1 ≤ 65535
  one : (S.uses.map fun u => (u.1, u.2.1)).Nodup
theorem codeK_arg {S : AS} (h : UsesI S) {k : Nat} {u : Nat × Nat × Nat} (hu : S.uses[k]? = some u) : ∃ i, (codeK S k)[u.1]? = some i ∧ i.arg u.2.1 = (S.o.code.getD u.1 noI).arg u.2.1 ∧ -1 ≤ i.arg u.2.1 ∧ i.arg u.2.1 ≤ 65535 ∧ u.2.1 < 4 := by
  obtain ⟨h4, i, hi, hi1, hi2⟩ := h.here u (List.mem_of_getElem? hu)
  have hf := fold_arg S (a := u.1) h4 (S.uses.take k) S.o.code (fun x hx => by
    refine ⟨(h.here x (List.mem_of_mem_take hx)).1, fun e => ?_⟩
    obtain ⟨j, hj⟩ := List.getElem?_of_mem hx
    rw [List.getElem?_take] at hj
    split at hj
    · rename_i hjk
      have h1 : (S.uses.map fun u => (u.1, u.2.1))[j]? = some (u.1, u.2.1) := by rw [List.getElem?_map, hj, ← e]; rfl
      have h2 : (S.uses.map fun u => (u.1, u.2.1))[k]? = some (u.1, u.2.1) := by rw [List.getElem?_map, hu]; rfl
      have hk1 := (List.getElem?_eq_some_iff.1 h2).1
      have := (List.getElem?_inj (by omega) h.one).1 (h1.trans h2.symm)
      omega
    · cases hj)
  rw [hi] at hf
  unfold codeK
  cases hc : (List.foldl (putU S) S.o.code (S.uses.take k))[u.1]? with
  | none => rw [hc] at hf; cases hf
  | some i' =>
    rw [hc] at hf
    simp only [Option.map_some, Option.some.injEq] at hf
    refine ⟨i', rfl, ?_, by rw [hf]; exact hi1, by rw [hf]; exact hi2, h4⟩
    rw [hf, List.getD_eq_getElem?_getD, hi]
    rfl
/-! ### What is wrong -/
def useW (S : AS) (l : List (Nat × Nat × Nat)) : List (Int × Nat) := (l.filter (badUse S)).map fun u => ((10 : Int), u.2.2)
def begW (S : AS) (l : List (Nat × Nat)) : List (Int × Nat) := (badBegins S l).map fun n => ((7 : Int), n)
theorem wrongs_is (S : AS) : wrongs S = useW S S.uses ++ begW S S.begins := rfl
theorem useW_cons (S : AS) (u : Nat × Nat × Nat) (l : List (Nat × Nat × Nat)) : useW S (u :: l) = (if badUse S u = true then [((10 : Int), u.2.2)] else []) ++ useW S l := by
  unfold useW
  rw [List.filter_cons]
  split <;> rfl
/-- Is a beginning wrong, with the next one? -/
def begBad (S : AS) (b : Nat × Nat) (r : List (Nat × Nat)) : Bool := decide ((S.o.code.length : Int) ≤ entryAt S b) || (match r with
  | [] => false
  | c :: _ => decide (entryAt S c = entryAt S b))
theorem begW_cons (S : AS) (b : Nat × Nat) (r : List (Nat × Nat)) : begW S (b :: r) = (if begBad S b r = true then [((7 : Int), b.2)] else []) ++ begW S r := by
  unfold begW begBad
  cases r with
  | nil =>
    have e1 : badBegins S [b] = if (S.o.code.length : Int) ≤ entryAt S b then [b.2] else [] := rfl
    have e2 : badBegins S [] = [] := rfl
    rw [e1, e2]
    by_cases h : (S.o.code.length : Int) ≤ entryAt S b
    · rw [if_pos h]; simp [h]
    · rw [if_neg h]; simp [h]
  | cons c r =>
    rw [badBegins]
    by_cases h : (S.o.code.length : Int) ≤ entryAt S b ∨ entryAt S c = entryAt S b
    · rw [if_pos h, if_pos (by simpa using h), List.map_append]; rfl
    · rw [if_neg h, if_neg (by simpa using h), List.map_append]; rfl
/-- The worse of two. -/
def worse (e : Int × Int) (f : Int) (n : Int) : Int × Int := if e.2 < 0 ∨ n < e.2 then (f, n) else e
theorem least_cons (e : Int × Int) (f : Int) (n : Nat) (r : List (Int × Nat)) : least e ((f, n) :: r) = least (worse e f n) r := rfl
theorem least_ne {l : List (Int × Nat)} : ∀ {e : Int × Int}, e.1 ≠ 0 → (∀ x ∈ l, x.1 ≠ 0) → (least e l).1 ≠ 0 := by
  induction l with
  | nil => intro e h _; exact h
  | cons x l ih =>
    intro e h hl
    obtain ⟨f, n⟩ := x
    rw [least_cons]
    refine ih ?_ fun y hy => hl y (by simp [hy])
    unfold worse
    split
    · exact hl (f, n) (by simp)
    · exact h
theorem least_zero {l : List (Int × Nat)} (hl : ∀ x ∈ l, x.1 ≠ 0) (h : (least (0, -1) l).1 = 0) : l = [] := by
  cases l with
  | nil => rfl
  | cons x l =>
    obtain ⟨f, n⟩ := x
    rw [least_cons] at h
    exact absurd h (least_ne (by unfold worse; rw [if_pos (.inl (by decide))]; exact hl (f, n) (by simp)) fun y hy => hl y (by simp [hy]))
theorem wrongs_ne (S : AS) : ∀ x ∈ wrongs S, x.1 ≠ 0 := by
  intro x hx
  rcases List.mem_append.1 hx with h | h
  · obtain ⟨u, _, rfl⟩ := List.mem_map.1 h; exact (by decide : (10 : Int) ≠ 0)
  · obtain ⟨u, _, rfl⟩ := List.mem_map.1 h; exact (by decide : (7 : Int) ≠ 0)
/-- Where nothing is wrong, all labels are places. -/
theorem settle_good {S : AS} (h : (least (0, -1) (wrongs S)).1 = 0) : settleP S = { S.o with code := codeK S S.uses.length } := by
  have h0 := least_zero (wrongs_ne S) h
  rw [wrongs_is, List.append_eq_nil_iff] at h0
  have hb : ∀ u ∈ S.uses, badUse S u = false := fun u hu => by
    cases hq : badUse S u with
    | false => rfl
    | true =>
      have : ((10 : Int), u.2.2) ∈ useW S S.uses := List.mem_map.2 ⟨u, List.mem_filter.2 ⟨hu, hq⟩, rfl⟩
      rw [h0.1] at this
      cases this
  unfold settleP codeK
  rw [List.take_length]
  have key : ∀ (l : List (Nat × Nat × Nat)) (o : LObj), (∀ u ∈ l, badUse S u = false) → l.foldl (fun o u => { o with code := o.code.modify u.1 fun i => setArg i u.2.1 (((useAt S u).getD 0 : Nat) : Int) }) o = { o with code := l.foldl (putU S) o.code } := by
    intro l
    induction l with
    | nil => intro o _; rfl
    | cons u l ih =>
      intro o hl
      rw [List.foldl_cons, ih _ (fun x hx => hl x (by simp [hx])), List.foldl_cons]
      have : putU S o.code u = o.code.modify u.1 fun i => setArg i u.2.1 (((useAt S u).getD 0 : Nat) : Int) := if_neg (by rw [hl u (by simp)]; decide)
      rw [this]
  exact key S.uses S.o hb
/-! ### The uses of what lines make -/
theorem operand8 (o : LObj) (w : Txt) : -1 ≤ (operandP o 8 w).2 ∧ (operandP o 8 w).2 ≤ 65535 := by
  show -1 ≤ (if w = [45] then (65535 : Int) else labelP w) ∧ (if w = [45] then (65535 : Int) else labelP w) ≤ 65535
  have := labelP_le w
  split <;> omega
theorem operandsP_useI (n at_ : Nat) : ∀ (l : List (Nat × Txt)) (o : LObj) (j : Nat), (∀ u ∈ (operandsP n at_ o j l).2.2, u.1 = n ∧ j ≤ u.2.1 ∧ u.2.1 < j + l.length ∧ ∃ v, (operandsP n at_ o j l).2.1[u.2.1 - j]? = some v ∧ -1 ≤ v ∧ v ≤ 65535) ∧ ((operandsP n at_ o j l).2.2.map fun u => (u.1, u.2.1)).Nodup
  | [], o, j => ⟨fun u hu => absurd hu (List.not_mem_nil), List.nodup_nil⟩
  | (k, w) :: l, o, j => by
    obtain ⟨h1, h2⟩ := operandsP_useI n at_ l (operandP o k w).1 (j + 1)
    rw [operandsP]
    simp only
    have key : ∀ u ∈ (operandsP n at_ (operandP o k w).1 (j + 1) l).2.2, u.1 = n ∧ j ≤ u.2.1 ∧ u.2.1 < j + ((k, w) :: l).length ∧ ∃ v, ((operandP o k w).2 :: (operandsP n at_ (operandP o k w).1 (j + 1) l).2.1)[u.2.1 - j]? = some v ∧ -1 ≤ v ∧ v ≤ 65535 := fun u hu => by
      obtain ⟨g1, g2, g3, v, g4, g5⟩ := h1 u hu
      refine ⟨g1, by omega, by rw [List.length_cons]; omega, v, ?_, g5⟩
      rw [show u.2.1 - j = (u.2.1 - (j + 1)) + 1 by omega, List.getElem?_cons_succ]
      exact g4
    split
    · rename_i hc
      obtain ⟨rfl, _⟩ := hc
      refine ⟨fun u hu => ?_, ?_⟩
      · rcases List.mem_append.1 hu with hu | hu
        · obtain rfl := List.mem_singleton.1 hu
          exact ⟨rfl, Nat.le_refl _, by simp, _, by rw [Nat.sub_self, List.getElem?_cons_zero], operand8 o w⟩
        · exact key u hu
      · rw [List.map_append, List.nodup_append]
        refine ⟨by simp, h2, fun a ha b hb => ?_⟩
        simp only [List.map_cons, List.map_nil, List.mem_singleton] at ha
        subst ha
        obtain ⟨u, hu, rfl⟩ := List.mem_map.1 hb
        have := (h1 u hu).2.1
        intro e
        injection e with _ e
        omega
    · refine ⟨fun u hu => key u (by simpa using hu), by simpa using h2⟩
theorem UsesI.start : UsesI AS0 := ⟨fun _ hu => absurd hu (List.not_mem_nil), List.nodup_nil⟩
theorem predP_code2 (o : LObj) (f : LFun) : (predP o f).1.code = o.code := predP_code o f
theorem UsesI.line {S : AS} (h : UsesI S) (s : Txt) (n : Nat) : UsesI (lineP S s n).1 := by
  unfold lineP
  split
  · unfold beginP
    split
    · exact h
    · simp only
      split
      · exact h
      · exact ⟨fun u hu => by
          obtain ⟨h4, i, hi, h5⟩ := h.here u hu
          refine ⟨h4, i, ?_, h5⟩
          simp only [predP_code]
          exact hi, h.one⟩
  · split
    · unfold markP
      split
      · exact h
      · split
        · exact h
        · exact ⟨h.here, h.one⟩
    · unfold instrP
      simp only
      split
      · exact h
      · rename_i hc
        have hlen := Classical.byContradiction fun e => hc (.inr (.inl e))
        generalize namedT ((splitT s).headD []) = op at hlen ⊢
        obtain ⟨g1, g2⟩ := operandsP_useI S.o.code.length n (((kindsOf op).map Int.toNat).zip (splitT s).tail) S.o 0
        have hl := operandsP_len S.o.code.length n (((kindsOf op).map Int.toNat).zip (splitT s).tail) S.o 0
        have hcd := operandsP_code (n := S.o.code.length) (at_ := n) (((kindsOf op).map Int.toNat).zip (splitT s).tail) S.o 0
        have hk4 := kinds_few op
        have hz : (((kindsOf op).map Int.toNat).zip (splitT s).tail).length ≤ 4 := by
          rw [List.length_zip, List.length_map]
          omega
        generalize operandsP S.o.code.length n S.o 0 (((kindsOf op).map Int.toNat).zip (splitT s).tail) = q at g1 g2 hl hcd ⊢
        refine ⟨fun u hu => ?_, ?_⟩
        · simp only at hu ⊢
          rw [hcd]
          rcases List.mem_append.1 hu with hu | hu
          · obtain ⟨h4, i, hi, h5⟩ := h.here u hu
            exact ⟨h4, i, by rw [List.getElem?_append_left (List.getElem?_eq_some_iff.1 hi).1]; exact hi, h5⟩
          · obtain ⟨e1, _, e3, v, e4, e5⟩ := g1 u hu
            have hu4 : u.2.1 < 4 := by omega
            refine ⟨hu4, insW op q.2.1, by rw [e1, List.getElem?_append_right (Nat.le_refl _)]; simp, ?_⟩
            rw [insW_arg op q.2.1 hu4, List.getD_eq_getElem?_getD]
            rw [Nat.sub_zero] at e4
            rw [e4]
            exact e5
        · simp only
          rw [List.map_append, List.nodup_append]
          refine ⟨h.one, g2, fun a ha b hb => ?_⟩
          obtain ⟨u, hu, rfl⟩ := List.mem_map.1 ha
          obtain ⟨u', hu', rfl⟩ := List.mem_map.1 hb
          obtain ⟨_, i, hi, _⟩ := h.here u hu
          have h1 := (List.getElem?_eq_some_iff.1 hi).1
          have h2 := (g1 u' hu').1
          intro e
          injection e with e _
          omega
end Go.Proofs.YtpcihhdalofdiaaGreatDoor

/- What lines make is an object that may be: the plain law of layer 9. No program in sight. -/
namespace Go.Proofs.YtpcihhdalofdiaaGreatDoor

theorem dup_nodup {α : Type} [DecidableEq α] : ∀ {l : List α}, l.Nodup → dupB l = false
  | [], _ => rfl
  | a :: l, h => by
    rw [dupB, dup_nodup (List.nodup_cons.1 h).2]
    simp [(List.nodup_cons.1 h).1]
theorem namedT_in {w : Txt} (h : ¬ namedT w < 0) : opIn (namedT w) = true := by
  unfold namedT at h ⊢
  split
  · rename_i h1; rw [if_pos h1] at h; omega
  · rename_i h1
    rw [if_neg h1] at h
    cases hf : (List.range 27).find? fun k : Nat => nameT (k : Int) == w with
    | none => rw [hf] at h; simp at h
    | some k =>
      have hk := List.mem_range.1 (List.mem_of_find?_eq_some hf)
      simp only [opIn, Bool.and_eq_true, decide_eq_true_eq]
      omega
/-- An operand that isn't a name or a label. -/
def PlainK (q : Nat) : Prop := q ≠ 3 ∧ q ≠ 4 ∧ q ≠ 7 ∧ q ≠ 8
theorem ofK_kinds {q : Nat} (h : PlainK q) (h1 : 1 ≤ q) (h2 : q < 10) : kindsOf (ofK q) = [(q : Int)] ∧ ofK q ≠ 26 ∧ opIn (ofK q) = true := by
  obtain ⟨a, b, c, d⟩ := h
  have : q = 1 ∨ q = 2 ∨ q = 5 ∨ q = 6 ∨ q = 9 := by omega
  rcases this with rfl | rfl | rfl | rfl | rfl <;> decide +kernel
theorem may_anyA {op op' : Int} {q : Nat} {n : Int} (h : mayOk op' q n = true) (h' : op' ≠ 26) : mayOk op q n = true := by
  unfold mayOk at h ⊢
  have : (op' == 26) = false := by simpa using h'
  rw [this] at h
  simp only [Bool.false_and, Bool.or_false] at h
  rw [h]
  rfl
theorem plainP_may {q : Nat} {w : Txt} (h : PlainK q) (h1 : 1 ≤ q) (h2 : q < 10) (h0 : 0 ≤ plainP q w) (op : Int) : mayOk op q (plainP q w) = true := by
  obtain ⟨k1, k2, k3⟩ := ofK_kinds h h1 h2
  unfold plainP at h0 ⊢
  split
  · rename_i hp
    unfold parseT at hp ⊢
    split
    · rename_i hc; rw [if_pos hc] at hp; cases hp
    · rename_i hc
      simp only [not_or, Classical.not_not] at hc
      have hok := txt_ok (i := cand opP (nameT (ofK q) ++ 32 :: w)) (by rw [hc.2]; exact hc.1)
      have hop : (cand opP (nameT (ofK q) ++ 32 :: w)).op = ofK q := by
        show namedT ((splitT (nameT (ofK q) ++ 32 :: w)).headD []) = _
        rw [splitT_word _ _ (name_op k3).2]
        exact (name_op k3).1
      simp only [insOk, Bool.and_eq_true, List.all_eq_true, List.mem_range] at hok
      have ha := hok.2 0 (by omega)
      unfold argOk at ha
      rw [hop, k1] at ha
      have ha' : mayOk (ofK q) ((q : Int)).toNat ((cand opP (nameT (ofK q) ++ 32 :: w)).arg 0) = true := ha
      rw [Int.toNat_natCast] at ha'
      exact may_anyA ha' k2
  · rename_i hp
    rw [if_neg hp] at h0
    omega
structure InsX (i : LIns) : Prop where
  op : opIn i.op = true
  plain : ∀ (j q : Nat), (kindsOf i.op)[j]? = some (q : Int) → PlainK q → mayOk i.op q (i.arg j) = true
  rest : ∀ k, k < 4 → (kindsOf i.op).length ≤ k → i.arg k = 0
theorem operandP_plain (o : LObj) {k : Nat} (w : Txt) (h : PlainK k) : (operandP o k w).2 = plainP k w := by
  unfold operandP
  rw [if_neg h.1, if_neg h.2.1, if_neg h.2.2.1, if_neg h.2.2.2]
theorem operandsP_plain {n at_ : Nat} : ∀ (l : List (Nat × Txt)) (o : LObj) (j i k : Nat) (w : Txt), l[i]? = some (k, w) → PlainK k → (operandsP n at_ o j l).2.1[i]? = some (plainP k w)
  | [], _, _, i, _, _, h, _ => by simp at h
  | (k', w') :: l, o, j, 0, k, w, h, hp => by
    simp only [List.getElem?_cons_zero, Option.some.injEq, Prod.mk.injEq] at h
    obtain ⟨rfl, rfl⟩ := h
    rw [operandsP]
    simp only [List.getElem?_cons_zero]
    rw [operandP_plain o _ hp]
  | (k', w') :: l, o, j, i + 1, k, w, h, hp => by
    rw [operandsP]
    simp only [List.getElem?_cons_succ] at h ⊢
    exact operandsP_plain l _ _ i k w h hp
/-- The uses are of labels, and all labels are used. -/
structure UsesA (S : AS) : Prop where
  kind : ∀ u ∈ S.uses, ∃ i, S.o.code[u.1]? = some i ∧ (kindsOf i.op)[u.2.1]? = some 8 ∧ i.arg u.2.1 ≠ 65535
  all : ∀ a i j, S.o.code[a]? = some i → (kindsOf i.op)[j]? = some 8 → i.arg j ≠ 65535 → ∃ u ∈ S.uses, u.1 = a ∧ u.2.1 = j
  ins : ∀ i ∈ S.o.code, InsX i
theorem operandsP_uses8 {n at_ : Nat} : ∀ (l : List (Nat × Txt)) (o : LObj) (j : Nat), (∀ u ∈ (operandsP n at_ o j l).2.2, ∃ w v, l[u.2.1 - j]? = some (8, w) ∧ (operandsP n at_ o j l).2.1[u.2.1 - j]? = some v ∧ v ≠ 65535 ∧ j ≤ u.2.1) ∧
    ∀ i w v, l[i]? = some (8, w) → (operandsP n at_ o j l).2.1[i]? = some v → v ≠ 65535 → (n, j + i, at_) ∈ (operandsP n at_ o j l).2.2
  | [], _, _ => ⟨fun u hu => absurd hu (List.not_mem_nil), fun i w v h => by simp at h⟩
  | (k, w) :: l, o, j => by
    obtain ⟨h1, h2⟩ := operandsP_uses8 (n := n) (at_ := at_) l (operandP o k w).1 (j + 1)
    rw [operandsP]
    simp only
    refine ⟨fun u hu => ?_, fun i w' v hi hv hne => ?_⟩
    · rcases List.mem_append.1 hu with hu | hu
      · split at hu
        · rename_i hc
          obtain rfl := List.mem_singleton.1 hu
          obtain ⟨rfl, hc2⟩ := hc
          exact ⟨w, _, by simp, by simp only [Nat.sub_self, List.getElem?_cons_zero], hc2, Nat.le_refl _⟩
        · cases hu
      · obtain ⟨w', v, e1, e2, e3, e4⟩ := h1 u hu
        have e5 : u.2.1 - j = (u.2.1 - (j + 1)) + 1 := by omega
        exact ⟨w', v, by rw [e5, List.getElem?_cons_succ]; exact e1, by rw [e5, List.getElem?_cons_succ]; exact e2, e3, by omega⟩
    · cases i with
      | zero =>
        simp only [List.getElem?_cons_zero, Option.some.injEq, Prod.mk.injEq] at hi hv
        obtain ⟨rfl, rfl⟩ := hi
        subst hv
        rw [if_pos ⟨rfl, hne⟩]
        exact List.mem_append.2 (.inl (by simp))
      | succ i =>
        simp only [List.getElem?_cons_succ] at hi hv
        have := h2 i w' v hi hv hne
        rw [show j + (i + 1) = j + 1 + i by omega]
        exact List.mem_append.2 (.inr this)
theorem UsesA.start : UsesA AS0 := ⟨fun _ hu => absurd hu (List.not_mem_nil), fun a i j h => by simp [AS0] at h, fun _ hi => absurd hi (List.not_mem_nil)⟩
theorem UsesA.same {S S' : AS} (h : UsesA S) (h1 : S'.uses = S.uses) (h2 : S'.o.code = S.o.code) : UsesA S' := by
  refine ⟨?_, ?_, ?_⟩
  · rw [h1, h2]; exact h.kind
  · rw [h1, h2]; exact h.all
  · rw [h2]; exact h.ins
theorem UsesA.line {S : AS} (h : UsesA S) (s : Txt) (n : Nat) : UsesA (lineP S s n).1 := by
  unfold lineP
  split
  · unfold beginP
    split
    · exact h
    · simp only
      split
      · exact h
      · exact h.same rfl (predP_code _ _)
  · split
    · unfold markP
      split
      · exact h
      · split
        · exact h
        · exact h.same rfl rfl
    · unfold instrP
      simp only
      split
      · exact h
      · rename_i hc
        have hop : ¬ namedT ((splitT s).headD []) < 0 := fun e => hc (.inl e)
        have hlen := Classical.byContradiction fun e => hc (.inr (.inl e))
        have hall := Classical.byContradiction fun e => hc (.inr (.inr (Bool.not_eq_true _ ▸ e)))
        have hin := namedT_in hop
        generalize namedT ((splitT s).headD []) = op at hlen hall hin ⊢
        rw [List.length_map] at hlen
        have hz : (((kindsOf op).map Int.toNat).zip (splitT s).tail).length = (kindsOf op).length := by simp; omega
        have hzk : ∀ (j q : Nat), (kindsOf op)[j]? = some (q : Int) → ∃ w, (((kindsOf op).map Int.toNat).zip (splitT s).tail)[j]? = some (q, w) := fun j q hq => by
          have hj := (List.getElem?_eq_some_iff.1 hq).1
          have ht : (splitT s).tail[j]? = some ((splitT s).tail[j]'(by simp; omega)) := List.getElem?_eq_getElem _
          exact ⟨_, zip_at (by rw [List.getElem?_map, hq]; rfl) ht⟩
        have hkz : ∀ (j q : Nat) (w : Txt), (((kindsOf op).map Int.toNat).zip (splitT s).tail)[j]? = some (q, w) → (kindsOf op)[j]? = some (q : Int) := fun j q w hq => by
          rw [List.getElem?_zip_eq_some] at hq
          have h1 := hq.1
          rw [List.getElem?_map] at h1
          cases hk : (kindsOf op)[j]? with
          | none => rw [hk] at h1; cases h1
          | some y =>
            rw [hk] at h1
            simp only [Option.map_some, Option.some.injEq] at h1
            have := kinds_mem op y (List.mem_of_getElem? hk)
            congr 1
            omega
        have hl := operandsP_len S.o.code.length n (((kindsOf op).map Int.toNat).zip (splitT s).tail) S.o 0
        have hcd := operandsP_code (n := S.o.code.length) (at_ := n) (((kindsOf op).map Int.toNat).zip (splitT s).tail) S.o 0
        have hpl := fun i k w => operandsP_plain (n := S.o.code.length) (at_ := n) (((kindsOf op).map Int.toNat).zip (splitT s).tail) S.o 0 i k w
        obtain ⟨hu1, hu2⟩ := operandsP_uses8 (n := S.o.code.length) (at_ := n) (((kindsOf op).map Int.toNat).zip (splitT s).tail) S.o 0
        have huI := (operandsP_useI S.o.code.length n (((kindsOf op).map Int.toNat).zip (splitT s).tail) S.o 0).1
        have hk4 := kinds_few op
        generalize operandsP S.o.code.length n S.o 0 (((kindsOf op).map Int.toNat).zip (splitT s).tail) = q at hl hcd hpl hu1 hu2 huI ⊢
        have hql : q.2.1.length = (kindsOf op).length := by rw [hl, hz]
        have harg : ∀ j v, q.2.1[j]? = some v → (insW op q.2.1).arg j = v := fun j v hv => by
          have hj := (List.getElem?_eq_some_iff.1 hv).1
          rw [insW_arg op q.2.1 (by omega), List.getD_eq_getElem?_getD, hv]
          rfl
        have hnew : InsX (insW op q.2.1) := by
          refine ⟨hin, fun j k hk hp => ?_, fun k hk4' hk => ?_⟩
          · obtain ⟨w, hw⟩ := hzk j k hk
            have h1 := hpl j k w hw hp
            rw [harg j _ h1]
            have hm := kinds_mem op _ (List.mem_of_getElem? hk)
            have hf := List.all_eq_true.1 hall _ (List.mem_of_getElem? hw)
            unfold fitsP at hf
            simp only at hf
            rw [if_neg hp.1, if_neg hp.2.1, if_neg hp.2.2.1, if_neg hp.2.2.2] at hf
            exact plainP_may hp (by omega) (by omega) (by simpa using hf) _
          · rw [insW_arg op q.2.1 hk4', List.getD_eq_getElem?_getD, List.getElem?_eq_none (by rw [hql]; exact hk)]
            rfl
        refine ⟨fun u hu => ?_, fun a i j ha hj hne => ?_, fun i hi => ?_⟩
        · simp only at hu ⊢
          rw [hcd]
          rcases List.mem_append.1 hu with hu | hu
          · obtain ⟨i, e1, e2, e3⟩ := h.kind u hu
            exact ⟨i, by rw [List.getElem?_append_left (List.getElem?_eq_some_iff.1 e1).1]; exact e1, e2, e3⟩
          · obtain ⟨w, v, e1, e2, e3, _⟩ := hu1 u hu
            have e5 := (huI u hu).1
            rw [Nat.sub_zero] at e1 e2
            refine ⟨insW op q.2.1, by rw [e5, List.getElem?_append_right (Nat.le_refl _)]; simp, hkz _ _ _ e1, ?_⟩
            rw [harg _ _ e2]
            exact e3
        · simp only at ha ⊢
          rw [hcd] at ha
          by_cases hlt : a < S.o.code.length
          · rw [List.getElem?_append_left hlt] at ha
            obtain ⟨u, hu, e1, e2⟩ := h.all a i j ha hj hne
            exact ⟨u, List.mem_append.2 (.inl hu), e1, e2⟩
          · rw [List.getElem?_append_right (by omega)] at ha
            have ha0 : a - S.o.code.length = 0 := by
              have := (List.getElem?_eq_some_iff.1 ha).1
              simp at this
              omega
            rw [ha0] at ha
            simp only [List.getElem?_cons_zero, Option.some.injEq] at ha
            subst ha
            obtain ⟨w, hw⟩ := hzk j 8 hj
            have hjl : j < q.2.1.length := by rw [hql]; exact (List.getElem?_eq_some_iff.1 hj).1
            have hv : q.2.1[j]? = some q.2.1[j] := List.getElem?_eq_getElem hjl
            rw [harg j _ hv] at hne
            have := hu2 j w _ hw hv hne
            rw [Nat.zero_add] at this
            exact ⟨_, List.mem_append.2 (.inr this), by simp only; omega, rfl⟩
        · simp only at hi
          rw [hcd] at hi
          rcases List.mem_append.1 hi with hi | hi
          · exact h.ins i hi
          · obtain rfl := List.mem_singleton.1 hi
            exact hnew
end Go.Proofs.YtpcihhdalofdiaaGreatDoor

/- An object that comes to be, in memory. Printed by gen_asmem.py. -/
namespace Go.Proofs.YtpcihhdalofdiaaGreatDoor
open Go.RowKit Go.Maps

theorem ownLA (A : Option Addr) (n c : Nat) : ownL (.slice A n c) = ownL (.slice A 0 0) := by cases A <;> rfl
theorem own_keepA {w w' : World} {L : List Nat} {base n size c : Nat} {e : TypeId} {A : Option Addr} {xs : List Value} (h : w.ownsRow base e size (.slice A n c) n xs) (k : Keeps w w' L) (hL : ∀ b ∈ L, b ∉ ownL (.slice A 0 0)) : w'.ownsRow base e size (.slice A n c) n xs := by
  refine ⟨h.1, ?_⟩
  rcases h.2 with h2 | ⟨g, cap, cur, he, hb, hg, r⟩
  · exact .inl h2
  · refine .inr ⟨g, cap, cur, he, hb, (k.block g (Array.getElem?_eq_some_iff.1 hg).1 (fun hm => hL g hm ?_)).trans hg, r⟩
    rw [← ownLA A n c, he]
    simp [ownL, Value.ownBlock]
theorem own_disjA {w : World} {base base' n n' size size' c c' : Nat} {e e' : TypeId} {A A' : Option Addr} {xs xs' : List Value} (h : w.ownsRow base e size (.slice A n c) n xs) (h' : w.ownsRow base' e' size' (.slice A' n' c') n' xs') (hne : e ≠ e') : ∀ b ∈ ownL (.slice A 0 0), b ∉ ownL (.slice A' 0 0) := by
  intro b hb hb'
  rw [← ownLA A n c] at hb
  rw [← ownLA A' n' c'] at hb'
  unfold ownL at hb hb'
  simp only [Option.mem_toList] at hb hb'
  rcases h.2 with ⟨h1, _⟩ | ⟨g, cap, cur, h0, _, h1, _⟩
  · rw [h1] at hb; simp [Value.ownBlock] at hb
  · rcases h'.2 with ⟨h2, _⟩ | ⟨g', cap', cur', h0', _, h2, _⟩
    · rw [h2] at hb'; simp [Value.ownBlock] at hb'
    · rw [h0] at hb
      rw [h0'] at hb'
      simp [Value.ownBlock] at hb hb'
      subst hb hb'
      rw [h1] at h2
      simp at h2
      exact hne h2.2
theorem own_outA {w : World} {base n size c : Nat} {e t : TypeId} {A : Option Addr} {xs : List Value} {cs : Array Value} {b : Nat} (h : w.ownsRow base e size (.slice A n c) n xs) (hb : Blk w b t cs) (hne : t ≠ e) : b ∉ ownL (.slice A 0 0) := by
  rw [← ownLA A n c]
  exact own_outT h hb hne
theorem own_ltA {w : World} {base n size c : Nat} {e : TypeId} {A : Option Addr} {xs : List Value} (h : w.ownsRow base e size (.slice A n c) n xs) : ∀ b ∈ ownL (.slice A 0 0), base ≤ b ∧ b < w.heap.size := by
  intro b hb
  rw [← ownLA A n c] at hb
  unfold ownL at hb
  simp only [Option.mem_toList] at hb
  exact h.lt b hb
theorem own_nilA {w : World} {base n c size : Nat} {e : TypeId} {xs : List Value} (h : w.ownsRow base e size (.slice none n c) n xs) : c = 0 := by
  rcases h.2 with ⟨h2, _⟩ | ⟨g2, cap, cur, he, _⟩
  · injection h2
  · injection he with he; cases he
theorem own_cellA {w : World} {base : Nat} {e : TypeId} {size n c g : Nat} {xs : List Value} (h : w.ownsRow base e size (.slice (some ⟨g, 0, none⟩) n c) n xs) (i : Nat) (u : Value) : (w.setCell ⟨g, i, none⟩ u).ownsRow base e size (.slice (some ⟨g, 0, none⟩) n c) n (xs.set i u) := by
  refine ⟨by rw [List.length_set]; exact h.1, ?_⟩
  rcases h.2 with ⟨h1, _⟩ | ⟨g', cap, cur, h1, h2, h3, h4, h5, h6, h7⟩
  · cases h1
  · injection h1 with h1 _ h8
    injection h1 with h1
    injection h1 with h1
    subst h1 h8
    refine .inr ⟨g, c, cur.setIfInBounds i u, rfl, h2, heap_setCell_same w g i cur e u h3, h4, h5, by simpa using h6, ?_⟩
    rw [← h7, Array.toList_setIfInBounds, List.take_set]
theorem own_atA {w : World} {base n c size : Nat} {e : TypeId} {A : Option Addr} {xs : List Value} (h : w.ownsRow base e size (.slice A n c) n xs) (hn : 0 < n) : ∃ g, A = some ⟨g, 0, none⟩ ∧ n ≤ c := by
  rcases h.2 with ⟨_, h1⟩ | ⟨g, cap, cur, h1, h2, h3, h4, _⟩
  · omega
  · injection h1 with h1 _ h8
    subst h8
    exact ⟨g, h1, h4⟩
/-- An element's cells in a row of the call's own: where they are, that they may be turned. -/
theorem app_factsA {w1 wa w4 : World} {base nt ct sz : Nat} {e : TypeId} {TA A' : Option Addr} {n' c' : Nat} {xs : List Value} (K5 : Keeps w1 wa []) (hown : w4.ownsRow base e sz (.slice A' n' c') n' xs) (hgrow : wa.grownBy w4 (Value.slice TA nt ct).ownBlock)
    (hat : (Value.slice A' n' c').ownBlock = (Value.slice TA nt ct).ownBlock ∨ (Value.slice A' n' c').ownBlock = some wa.heap.size) : w4.ownsRow base e sz (.slice A' n' c') n' xs ∧ Keeps w1 w4 (ownL (.slice TA 0 0)) ∧ (∀ b ∈ ownL (.slice A' 0 0), b ∈ ownL (.slice TA 0 0) ∨ w1.heap.size ≤ b) := by
  refine ⟨hown, (K5.to_ _).trans (by rw [← ownLA TA nt ct]; exact Keeps.ofGrown hgrow), fun b hb' => ?_⟩
  rw [← ownLA A' n' c'] at hb'
  rw [← ownLA TA nt ct]
  unfold ownL at hb' ⊢
  simp only [Option.mem_toList] at hb' ⊢
  rcases hat with h1 | h1
  · exact .inl (by rw [← h1]; exact hb')
  · have := K5.size
    exact .inr (by rw [h1] at hb'; simp at hb'; omega)
theorem Blk.grownA {w1 wa w4 : World} {g nt ct : Nat} {t : TypeId} {cs : Array Value} {TA : Option Addr} (h : Blk w1 g t cs) (K5 : Keeps w1 wa []) (hgrow : wa.grownBy w4 (Value.slice TA nt ct).ownBlock) (hn : g ∉ ownL (.slice TA 0 0)) : Blk w4 g t cs :=
  (h.keep K5 (by simp)).grown hgrow (fun e => hn (by rw [← ownLA TA nt ct]; unfold ownL; rw [← e]; simp))
/-- What a call leaves: only some blocks turn; those that come are new. -/
structure ASt (w : World) (L : List Nat) (w' : World) (L' : List Nat) : Prop where
  keep : Keeps w w' L
  own : ∀ b ∈ L', b ∈ L ∨ w.heap.size ≤ b
theorem ASt.refl (w : World) (L : List Nat) : ASt w L w L := ⟨Keeps.refl w L, fun _ h => .inl h⟩
theorem ASt.of_keeps {w w' : World} (k : Keeps w w' []) (L : List Nat) : ASt w L w' L := ⟨k.to_ L, fun _ h => .inl h⟩
theorem ASt.trans {a b c : World} {L M N : List Nat} (h : ASt a L b M) (k : ASt b M c N) : ASt a L c N := by
  refine ⟨⟨k.keep.os.trans h.keep.os, k.keep.tape.trans h.keep.tape, k.keep.output.trans h.keep.output, Nat.le_trans h.keep.size k.keep.size, fun i hi hn => ?_⟩, fun x hx => ?_⟩
  · refine (k.keep.block i (Nat.lt_of_lt_of_le hi h.keep.size) (fun hm => ?_)).trans (h.keep.block i hi hn)
    rcases h.own i hm with h1 | h1
    · exact hn h1
    · omega
  · rcases k.own x hx with h1 | h1
    · exact h.own x h1
    · exact .inr (Nat.le_trans h.keep.size h1)
/-- A block outside stays, and stays outside. -/
theorem ASt.blk {w w' : World} {L L' : List Nat} (h : ASt w L w' L') {g : Nat} {t : TypeId} {cs : Array Value} (hb : Blk w g t cs) (hg : g ∉ L) : Blk w' g t cs ∧ g ∉ L' := by
  refine ⟨hb.keep h.keep hg, fun hm => ?_⟩
  rcases h.own g hm with h1 | h1
  · exact hg h1
  · have := hb.lt; omega

/-! ### Maps of numbers -/
def I64A (x : Int) : Prop := -9223372036854775808 ≤ x ∧ x ≤ 9223372036854775807
theorem zero_intA (w : World) : (zeroValue 3).run Tryz.prog w = .ok (.int .i64 0) w := by kernel_rfl
theorem I64A.wf {x : Int} (h : I64A x) : (Lit.int .i64 x).wf = true := WalkArith.wf_i64 (by have := h.1; have := h.2; omega)
theorem I64A.key {x : Int} (h : I64A x) : keyOf Tryz.prog 3 (.int .i64 x) = some (.int .i64 x) := keyOf_int_mk Tryz.underlying3 h.wf
/-- A map of numbers to places, of at most n entries. -/
def LM (w : World) (b n : Nat) (f : Int → Option Nat) : Prop :=
  ∃ D : DataW Unit, w.ownsMap Tryz.prog 3 (plainElem Tryz.prog 3) b n D ∧ ∀ x, I64A x → Maps.has D (.int .i64 x) = (f x).isSome ∧ D.atKey (.int .i64 x) (.lit (.int .i64 0)) = .lit (.int .i64 (((f x).getD 0 : Nat) : Int))
theorem LM.kept {w w' : World} {b n : Nat} {f : Int → Option Nat} (h : LM w b n f) {L : List Nat} (k : Keeps w w' L) (hb : b ∉ L) : LM w' b n f := by
  obtain ⟨D, h1, h2⟩ := h
  obtain ⟨es, clock, e1, r⟩ := h1
  exact ⟨D, ⟨es, clock, (k.block b (Array.getElem?_eq_some_iff.1 e1).1 hb).trans e1, r⟩, h2⟩
theorem LM.lt {w : World} {b n : Nat} {f : Int → Option Nat} (h : LM w b n f) : b < w.heap.size := by
  obtain ⟨D, h1, _⟩ := h
  exact h1.lt
set_option maxRecDepth 100000 in
theorem LM.look {w : World} {b n : Nat} {f : Int → Option Nat} (h : LM w b n f) {x : Int} (hx : I64A x) : (Instr.lookup 54 (.map (some b)) (.int .i64 x) true).run Tryz.prog w = .ok (.tuple #[.int .i64 (((f x).getD 0 : Nat) : Int), .bool (f x).isSome]) w := by
  obtain ⟨D, h1, h2⟩ := h
  obtain ⟨v, ps, hrun, hv⟩ := h1.look_ok law_int Tryz.underlying54 (zero_intA w) (plainElem_int Tryz.underlying3 (I64A.wf ⟨by omega, by omega⟩)) hx.key
  obtain ⟨c, rfl, hc, _⟩ := plainElem_int_inv Tryz.underlying3 hv
  obtain ⟨h3, h4⟩ := h2 x hx
  have h5 := congrArg Prod.fst hc
  simp only at h5
  rw [h4] at h5
  have h6 : (((f x).getD 0 : Nat) : Int) = c := by injection h5 with h5; injection h5
  rw [hrun, h3, h6]
theorem LM.put {w : World} {b n : Nat} {f : Int → Option Nat} (h : LM w b n f) (hn : n ≤ 1000000) {x : Int} {p : Nat} (hx : I64A x) (hp : p ≤ 9223372036854775807) :
    ∃ w', (Instr.mapUpdate 54 (.map (some b)) (.int .i64 x) (.int .i64 p)).run Tryz.prog w = .ok () w' ∧ LM w' b (n + 1) (fun m => if m = x then some p else f m) ∧ Keeps w w' [b] := by
  obtain ⟨D, h1, h2⟩ := h
  have hp' : I64A (p : Int) := ⟨by omega, by omega⟩
  obtain ⟨w', hrun, h3, hg⟩ := h1.update law_int Tryz.underlying54 (by unfold maxLen; omega) hx.key (plainElem_int Tryz.underlying3 hp'.wf)
  refine ⟨w', hrun, ⟨_, h3, fun y hy => ?_⟩, ⟨hg.os, hg.tape, hg.output, hg.size, fun k hk hkb => hg.block k hk (fun e => hkb (by injection e with e; subst e; simp))⟩⟩
  by_cases hyx : y = x
  · subst hyx
    dsimp only
    rw [if_pos rfl]
    exact ⟨has_put_same h1.isMap (by trivial) _, atKey_put_same h1.isMap (by trivial) _ _⟩
  · have hne : (Lit.int .i64 y) ≠ Lit.int .i64 x := fun e => hyx (by injection e)
    dsimp only
    rw [if_neg hyx, has_put_other hne, atKey_put_other hne]
    exact h2 y hy
theorem LM.made (w : World) : LM (w.alloc (.map #[] 0)) w.heap.size 0 (fun _ => none) :=
  ⟨_, World.ownsMap_made w Tryz.prog 3 _, fun _ _ => ⟨rfl, rfl⟩⟩
theorem LM.ne {w : World} {b n g : Nat} {f : Int → Option Nat} {t : TypeId} {cs : Array Value} (h : LM w b n f) (k : Blk w g t cs) : b ≠ g := by
  rintro rfl
  obtain ⟨D, ⟨es, clock, e1, _⟩, _⟩ := h
  unfold Blk at k
  rw [e1] at k
  cases k
theorem LM.out {w : World} {b n m base size c : Nat} {f : Int → Option Nat} {e : TypeId} {A : Option Addr} {xs : List Value} (h : LM w b n f) (k : w.ownsRow base e size (.slice A m c) m xs) : b ∉ ownL (.slice A 0 0) := by
  intro hb
  rw [← ownLA A m c] at hb
  unfold ownL at hb
  simp only [Option.mem_toList] at hb
  obtain ⟨D, ⟨es, clock, e1, _⟩, _⟩ := h
  rcases k.2 with ⟨h2, _⟩ | ⟨g, cap, cur, h0, _, h1, _⟩
  · rw [h2] at hb; simp [Value.ownBlock] at hb
  · rw [h0] at hb
    simp [Value.ownBlock] at hb
    subst hb
    rw [e1] at h1
    cases h1
theorem LM.more {w : World} {b n n' : Nat} {f : Int → Option Nat} (h : LM w b n f) (hn : n ≤ n') : LM w b n' f := by
  obtain ⟨D, h1, h2⟩ := h
  exact ⟨D, h1.mono hn, h2⟩

/-! ### An object that comes to be -/
def useE (u : Nat × Nat × Nat) : List Value := [.int .i64 u.1, .int .i64 u.2.1, .int .i64 u.2.2]
def begE (b : Nat × Nat) : List Value := [.int .i64 b.1, .int .i64 b.2]
theorem useE_len (u : Nat × Nat × Nat) : (useE u).length = 3 := rfl
theorem begE_len (b : Nat × Nat) : (begE b).length = 2 := rfl
theorem el_atomA : ElemT Tryz.prog 22 9 1 := elemT_of (b := 16) (z := .string ⟨#[]⟩) Tryz.underlying22 (by kernel_rfl) (by omega) rfl (by omega)
theorem el_funA : ElemT Tryz.prog 25 77 2 := elemT_of (b := 24) (z := .agg #[.string ⟨#[]⟩, .int .i64 0]) Tryz.underlying25 (by kernel_rfl) (by omega) rfl (by omega)
theorem el_predA : ElemT Tryz.prog 28 52 3 := elemT_of (b := 32) (z := .agg #[.string ⟨#[]⟩, .int .i64 0, .int .i64 0]) Tryz.underlying28 (by kernel_rfl) (by omega) rfl (by omega)
theorem el_insA : ElemT Tryz.prog 29 79 5 := elemT_of (b := 40) (z := .agg #[.int .i64 0, .int .i64 0, .int .i64 0, .int .i64 0, .int .i64 0]) Tryz.underlying29 (by kernel_rfl) (by omega) rfl (by omega)
theorem el_useA : ElemT Tryz.prog 55 105 3 := elemT_of (b := 24) (z := .agg #[.int .i64 0, .int .i64 0, .int .i64 0]) Tryz.underlying55 (by kernel_rfl) (by omega) rfl (by omega)
theorem el_begA : ElemT Tryz.prog 56 108 2 := elemT_of (b := 16) (z := .agg #[.int .i64 0, .int .i64 0]) Tryz.underlying56 (by kernel_rfl) (by omega) rfl (by omega)
/-- The struct, its rows, its map. -/
structure AsM (w0 w : World) (ab vb : Nat) (AA FA PA CA UA BA : Option Addr) (ca cf cp cc cu cb nl : Nat) (S : AS) : Prop where
  blk : Blk w ab 58 #[.slice AA S.o.atoms.length ca, .slice FA S.o.funs.length cf, .slice PA S.o.preds.length cp, .slice CA S.o.code.length cc, .map (some vb), .slice UA S.uses.length cu, .slice BA S.begins.length cb]
  atoms : w.ownsRow w0.heap.size 9 1 (.slice AA S.o.atoms.length ca) S.o.atoms.length (S.o.atoms.flatMap strE)
  funs : w.ownsRow w0.heap.size 77 2 (.slice FA S.o.funs.length cf) S.o.funs.length (S.o.funs.flatMap funE)
  preds : w.ownsRow w0.heap.size 52 3 (.slice PA S.o.preds.length cp) S.o.preds.length (S.o.preds.flatMap predE)
  code : w.ownsRow w0.heap.size 79 5 (.slice CA S.o.code.length cc) S.o.code.length (S.o.code.flatMap insE)
  uses : w.ownsRow w0.heap.size 105 3 (.slice UA S.uses.length cu) S.uses.length (S.uses.flatMap useE)
  begins : w.ownsRow w0.heap.size 108 2 (.slice BA S.begins.length cb) S.begins.length (S.begins.flatMap begE)
  labels : LM w vb nl S.labels
  low : w0.heap.size ≤ ab ∧ w0.heap.size ≤ vb
  bel : Below w0.heap.size w0 w
  st : St w0
def asL (ab vb : Nat) (AA FA PA CA UA BA : Option Addr) : List Nat := [ab, vb] ++ (ownL (.slice AA 0 0) ++ (ownL (.slice FA 0 0) ++ (ownL (.slice PA 0 0) ++ (ownL (.slice CA 0 0) ++ (ownL (.slice UA 0 0) ++ (ownL (.slice BA 0 0)))))))
section
variable {w0 w : World} {ab vb : Nat} {AA FA PA CA UA BA : Option Addr} {ca cf cp cc cu cb nl : Nat} {S : AS}
theorem AsM.st_ (h : AsM w0 w ab vb AA FA PA CA UA BA ca cf cp cc cu cb nl S) : St w := h.st.keep (Keeps.nil_of h.bel)
theorem AsM.bel_ (h : AsM w0 w ab vb AA FA PA CA UA BA ca cf cp cc cu cb nl S) {w' : World} {L : List Nat} (k : Keeps w w' L) (hL : ∀ b ∈ L, w0.heap.size ≤ b) : Below w0.heap.size w0 w' := k.below h.bel hL h.bel.size
theorem AsM.in_ (h : AsM w0 w ab vb AA FA PA CA UA BA ca cf cp cc cu cb nl S) : ∀ b ∈ asL ab vb AA FA PA CA UA BA, w0.heap.size ≤ b ∧ b < w.heap.size := by
  intro b hb
  unfold asL at hb
  simp only [List.mem_append, List.mem_cons, List.not_mem_nil, or_false] at hb
  rcases hb with (rfl | rfl) | hb | hb | hb | hb | hb | hb
  · exact ⟨h.low.1, h.blk.lt⟩
  · exact ⟨h.low.2, h.labels.lt⟩
  · exact own_ltA h.atoms b hb
  · exact own_ltA h.funs b hb
  · exact own_ltA h.preds b hb
  · exact own_ltA h.code b hb
  · exact own_ltA h.uses b hb
  · exact own_ltA h.begins b hb
/-- Nothing of it turns. -/
theorem AsM.keep (h : AsM w0 w ab vb AA FA PA CA UA BA ca cf cp cc cu cb nl S) {w' : World} {L : List Nat} (k : Keeps w w' L) (hL : ∀ b ∈ L, b ∉ asL ab vb AA FA PA CA UA BA ∧ w0.heap.size ≤ b) : AsM w0 w' ab vb AA FA PA CA UA BA ca cf cp cc cu cb nl S := by
  have hn : ∀ b ∈ L, (b ≠ ab ∧ b ≠ vb) ∧ b ∉ ownL (.slice AA 0 0) ∧ b ∉ ownL (.slice FA 0 0) ∧ b ∉ ownL (.slice PA 0 0) ∧ b ∉ ownL (.slice CA 0 0) ∧ b ∉ ownL (.slice UA 0 0) ∧ b ∉ ownL (.slice BA 0 0) := fun b hb => by
    have h1 := (hL b hb).1
    unfold asL at h1
    simp only [List.mem_append, List.mem_cons, List.not_mem_nil, or_false, not_or] at h1
    exact ⟨h1.1, h1.2⟩
  exact ⟨h.blk.keep k (fun hm => (hn _ hm).1.1 rfl), own_keepA h.atoms k (fun b hb => (hn b hb).2.1), own_keepA h.funs k (fun b hb => (hn b hb).2.2.1), own_keepA h.preds k (fun b hb => (hn b hb).2.2.2.1), own_keepA h.code k (fun b hb => (hn b hb).2.2.2.2.1), own_keepA h.uses k (fun b hb => (hn b hb).2.2.2.2.2.1), own_keepA h.begins k (fun b hb => (hn b hb).2.2.2.2.2.2), h.labels.kept k (fun hm => (hn _ hm).1.2 rfl), h.low, h.bel_ k (fun b hb => (hL b hb).2), h.st⟩
theorem AsM.keep0 (h : AsM w0 w ab vb AA FA PA CA UA BA ca cf cp cc cu cb nl S) {w' : World} (k : Keeps w w' []) : AsM w0 w' ab vb AA FA PA CA UA BA ca cf cp cc cu cb nl S := h.keep k (by simp)
theorem AsM.more (h : AsM w0 w ab vb AA FA PA CA UA BA ca cf cp cc cu cb nl S) {n' : Nat} (hn : nl ≤ n') : AsM w0 w ab vb AA FA PA CA UA BA ca cf cp cc cu cb n' S := ⟨h.blk, h.atoms, h.funs, h.preds, h.code, h.uses, h.begins, h.labels.more hn, h.low, h.bel, h.st⟩
/-- The object's tables. -/
theorem AsM.ob (h : AsM w0 w ab vb AA FA PA CA UA BA ca cf cp cc cu cb nl S) : ObIs w S.o AA FA PA CA ca cf cp cc := ⟨Rd.of_own h.atoms, Rd.of_own h.funs, Rd.of_own h.preds, Rd.of_own h.code, fun e => by subst e; exact own_nilA h.atoms, fun e => by subst e; exact own_nilA h.funs, fun e => by subst e; exact own_nilA h.preds, fun e => by subst e; exact own_nilA h.code⟩
/-- .. atoms turn. -/
theorem AsM.atoms_ (h : AsM w0 w ab vb AA FA PA CA UA BA ca cf cp cc cu cb nl S) {w1 : World} (k : Keeps w w1 (ownL (.slice AA 0 0))) {A' : Option Addr} {c' : Nat} {l' : List ByteArray} (ho : w1.ownsRow w0.heap.size 9 1 (.slice A' l'.length c') l'.length (l'.flatMap strE)) :
    AsM w0 (w1.setCell ⟨ab, 0, none⟩ (.slice A' l'.length c')) ab vb A' FA PA CA UA BA c' cf cp cc cu cb nl { S with o := { S.o with atoms := l' } } := by
  have hno := own_outA h.atoms h.blk (by decide)
  have b1 := h.blk.keep k hno
  have ks : Keeps w1 (w1.setCell ⟨ab, 0, none⟩ (.slice A' l'.length c')) [ab] := (Keeps.refl w1 [ab]).setCell (.inl (by simp)) _
  have v1 := (h.labels.kept k (h.labels.out h.atoms)).kept ks (by simp only [List.mem_cons, List.not_mem_nil, or_false]; exact h.labels.ne h.blk)
  have one : ∀ {Q : Option Addr}, ab ∉ ownL (.slice Q 0 0) → ∀ b ∈ [ab], b ∉ ownL (.slice Q 0 0) := fun hq b hb' => by simp at hb'; subst hb'; exact hq
  have b2 := b1.set_ 0 (.slice A' l'.length c')
  have e0 := own_keepA ho ks (one (own_outA ho b1 (by decide)))
  have e1 := own_keepA (own_keepA h.funs k (own_disjA h.atoms h.funs (by decide))) ks (one (own_outA h.funs h.blk (by decide)))
  have e2 := own_keepA (own_keepA h.preds k (own_disjA h.atoms h.preds (by decide))) ks (one (own_outA h.preds h.blk (by decide)))
  have e3 := own_keepA (own_keepA h.code k (own_disjA h.atoms h.code (by decide))) ks (one (own_outA h.code h.blk (by decide)))
  have e4 := own_keepA (own_keepA h.uses k (own_disjA h.atoms h.uses (by decide))) ks (one (own_outA h.uses h.blk (by decide)))
  have e5 := own_keepA (own_keepA h.begins k (own_disjA h.atoms h.begins (by decide))) ks (one (own_outA h.begins h.blk (by decide)))
  exact ⟨by simpa using b2, e0, e1, e2, e3, e4, e5, v1, h.low, ks.below (h.bel_ k (fun b hb' => (own_ltA h.atoms b hb').1)) (by simp only [List.mem_cons, List.not_mem_nil, or_false]; rintro _ rfl; exact h.low.1) (Nat.le_trans h.bel.size k.size), h.st⟩
theorem AsM.atoms_in (h : AsM w0 w ab vb AA FA PA CA UA BA ca cf cp cc cu cb nl S) {w1 : World} (k : Keeps w w1 (ownL (.slice AA 0 0))) {l' : List ByteArray} (hl : l'.length = S.o.atoms.length) (ho : w1.ownsRow w0.heap.size 9 1 (.slice AA S.o.atoms.length ca) S.o.atoms.length (l'.flatMap strE)) :
    AsM w0 w1 ab vb AA FA PA CA UA BA ca cf cp cc cu cb nl { S with o := { S.o with atoms := l' } } := by
  have hno := own_outA h.atoms h.blk (by decide)
  have b1 := h.blk.keep k hno
  have v1 := h.labels.kept k (h.labels.out h.atoms)
  rw [← hl] at ho b1
  have e1 := own_keepA h.funs k (own_disjA h.atoms h.funs (by decide))
  have e2 := own_keepA h.preds k (own_disjA h.atoms h.preds (by decide))
  have e3 := own_keepA h.code k (own_disjA h.atoms h.code (by decide))
  have e4 := own_keepA h.uses k (own_disjA h.atoms h.uses (by decide))
  have e5 := own_keepA h.begins k (own_disjA h.atoms h.begins (by decide))
  exact ⟨b1, ho, e1, e2, e3, e4, e5, v1, h.low, h.bel_ k (fun b hb' => (own_ltA h.atoms b hb').1), h.st⟩
/-- .. funs turn. -/
theorem AsM.funs_ (h : AsM w0 w ab vb AA FA PA CA UA BA ca cf cp cc cu cb nl S) {w1 : World} (k : Keeps w w1 (ownL (.slice FA 0 0))) {A' : Option Addr} {c' : Nat} {l' : List LFun} (ho : w1.ownsRow w0.heap.size 77 2 (.slice A' l'.length c') l'.length (l'.flatMap funE)) :
    AsM w0 (w1.setCell ⟨ab, 1, none⟩ (.slice A' l'.length c')) ab vb AA A' PA CA UA BA ca c' cp cc cu cb nl { S with o := { S.o with funs := l' } } := by
  have hno := own_outA h.funs h.blk (by decide)
  have b1 := h.blk.keep k hno
  have ks : Keeps w1 (w1.setCell ⟨ab, 1, none⟩ (.slice A' l'.length c')) [ab] := (Keeps.refl w1 [ab]).setCell (.inl (by simp)) _
  have v1 := (h.labels.kept k (h.labels.out h.funs)).kept ks (by simp only [List.mem_cons, List.not_mem_nil, or_false]; exact h.labels.ne h.blk)
  have one : ∀ {Q : Option Addr}, ab ∉ ownL (.slice Q 0 0) → ∀ b ∈ [ab], b ∉ ownL (.slice Q 0 0) := fun hq b hb' => by simp at hb'; subst hb'; exact hq
  have b2 := b1.set_ 1 (.slice A' l'.length c')
  have e0 := own_keepA ho ks (one (own_outA ho b1 (by decide)))
  have e1 := own_keepA (own_keepA h.atoms k (own_disjA h.funs h.atoms (by decide))) ks (one (own_outA h.atoms h.blk (by decide)))
  have e2 := own_keepA (own_keepA h.preds k (own_disjA h.funs h.preds (by decide))) ks (one (own_outA h.preds h.blk (by decide)))
  have e3 := own_keepA (own_keepA h.code k (own_disjA h.funs h.code (by decide))) ks (one (own_outA h.code h.blk (by decide)))
  have e4 := own_keepA (own_keepA h.uses k (own_disjA h.funs h.uses (by decide))) ks (one (own_outA h.uses h.blk (by decide)))
  have e5 := own_keepA (own_keepA h.begins k (own_disjA h.funs h.begins (by decide))) ks (one (own_outA h.begins h.blk (by decide)))
  exact ⟨by simpa using b2, e1, e0, e2, e3, e4, e5, v1, h.low, ks.below (h.bel_ k (fun b hb' => (own_ltA h.funs b hb').1)) (by simp only [List.mem_cons, List.not_mem_nil, or_false]; rintro _ rfl; exact h.low.1) (Nat.le_trans h.bel.size k.size), h.st⟩
theorem AsM.funs_in (h : AsM w0 w ab vb AA FA PA CA UA BA ca cf cp cc cu cb nl S) {w1 : World} (k : Keeps w w1 (ownL (.slice FA 0 0))) {l' : List LFun} (hl : l'.length = S.o.funs.length) (ho : w1.ownsRow w0.heap.size 77 2 (.slice FA S.o.funs.length cf) S.o.funs.length (l'.flatMap funE)) :
    AsM w0 w1 ab vb AA FA PA CA UA BA ca cf cp cc cu cb nl { S with o := { S.o with funs := l' } } := by
  have hno := own_outA h.funs h.blk (by decide)
  have b1 := h.blk.keep k hno
  have v1 := h.labels.kept k (h.labels.out h.funs)
  rw [← hl] at ho b1
  have e1 := own_keepA h.atoms k (own_disjA h.funs h.atoms (by decide))
  have e2 := own_keepA h.preds k (own_disjA h.funs h.preds (by decide))
  have e3 := own_keepA h.code k (own_disjA h.funs h.code (by decide))
  have e4 := own_keepA h.uses k (own_disjA h.funs h.uses (by decide))
  have e5 := own_keepA h.begins k (own_disjA h.funs h.begins (by decide))
  exact ⟨b1, e1, ho, e2, e3, e4, e5, v1, h.low, h.bel_ k (fun b hb' => (own_ltA h.funs b hb').1), h.st⟩
/-- .. preds turn. -/
theorem AsM.preds_ (h : AsM w0 w ab vb AA FA PA CA UA BA ca cf cp cc cu cb nl S) {w1 : World} (k : Keeps w w1 (ownL (.slice PA 0 0))) {A' : Option Addr} {c' : Nat} {l' : List LPred} (ho : w1.ownsRow w0.heap.size 52 3 (.slice A' l'.length c') l'.length (l'.flatMap predE)) :
    AsM w0 (w1.setCell ⟨ab, 2, none⟩ (.slice A' l'.length c')) ab vb AA FA A' CA UA BA ca cf c' cc cu cb nl { S with o := { S.o with preds := l' } } := by
  have hno := own_outA h.preds h.blk (by decide)
  have b1 := h.blk.keep k hno
  have ks : Keeps w1 (w1.setCell ⟨ab, 2, none⟩ (.slice A' l'.length c')) [ab] := (Keeps.refl w1 [ab]).setCell (.inl (by simp)) _
  have v1 := (h.labels.kept k (h.labels.out h.preds)).kept ks (by simp only [List.mem_cons, List.not_mem_nil, or_false]; exact h.labels.ne h.blk)
  have one : ∀ {Q : Option Addr}, ab ∉ ownL (.slice Q 0 0) → ∀ b ∈ [ab], b ∉ ownL (.slice Q 0 0) := fun hq b hb' => by simp at hb'; subst hb'; exact hq
  have b2 := b1.set_ 2 (.slice A' l'.length c')
  have e0 := own_keepA ho ks (one (own_outA ho b1 (by decide)))
  have e1 := own_keepA (own_keepA h.atoms k (own_disjA h.preds h.atoms (by decide))) ks (one (own_outA h.atoms h.blk (by decide)))
  have e2 := own_keepA (own_keepA h.funs k (own_disjA h.preds h.funs (by decide))) ks (one (own_outA h.funs h.blk (by decide)))
  have e3 := own_keepA (own_keepA h.code k (own_disjA h.preds h.code (by decide))) ks (one (own_outA h.code h.blk (by decide)))
  have e4 := own_keepA (own_keepA h.uses k (own_disjA h.preds h.uses (by decide))) ks (one (own_outA h.uses h.blk (by decide)))
  have e5 := own_keepA (own_keepA h.begins k (own_disjA h.preds h.begins (by decide))) ks (one (own_outA h.begins h.blk (by decide)))
  exact ⟨by simpa using b2, e1, e2, e0, e3, e4, e5, v1, h.low, ks.below (h.bel_ k (fun b hb' => (own_ltA h.preds b hb').1)) (by simp only [List.mem_cons, List.not_mem_nil, or_false]; rintro _ rfl; exact h.low.1) (Nat.le_trans h.bel.size k.size), h.st⟩
theorem AsM.preds_in (h : AsM w0 w ab vb AA FA PA CA UA BA ca cf cp cc cu cb nl S) {w1 : World} (k : Keeps w w1 (ownL (.slice PA 0 0))) {l' : List LPred} (hl : l'.length = S.o.preds.length) (ho : w1.ownsRow w0.heap.size 52 3 (.slice PA S.o.preds.length cp) S.o.preds.length (l'.flatMap predE)) :
    AsM w0 w1 ab vb AA FA PA CA UA BA ca cf cp cc cu cb nl { S with o := { S.o with preds := l' } } := by
  have hno := own_outA h.preds h.blk (by decide)
  have b1 := h.blk.keep k hno
  have v1 := h.labels.kept k (h.labels.out h.preds)
  rw [← hl] at ho b1
  have e1 := own_keepA h.atoms k (own_disjA h.preds h.atoms (by decide))
  have e2 := own_keepA h.funs k (own_disjA h.preds h.funs (by decide))
  have e3 := own_keepA h.code k (own_disjA h.preds h.code (by decide))
  have e4 := own_keepA h.uses k (own_disjA h.preds h.uses (by decide))
  have e5 := own_keepA h.begins k (own_disjA h.preds h.begins (by decide))
  exact ⟨b1, e1, e2, ho, e3, e4, e5, v1, h.low, h.bel_ k (fun b hb' => (own_ltA h.preds b hb').1), h.st⟩
/-- .. code turn. -/
theorem AsM.code_ (h : AsM w0 w ab vb AA FA PA CA UA BA ca cf cp cc cu cb nl S) {w1 : World} (k : Keeps w w1 (ownL (.slice CA 0 0))) {A' : Option Addr} {c' : Nat} {l' : List LIns} (ho : w1.ownsRow w0.heap.size 79 5 (.slice A' l'.length c') l'.length (l'.flatMap insE)) :
    AsM w0 (w1.setCell ⟨ab, 3, none⟩ (.slice A' l'.length c')) ab vb AA FA PA A' UA BA ca cf cp c' cu cb nl { S with o := { S.o with code := l' } } := by
  have hno := own_outA h.code h.blk (by decide)
  have b1 := h.blk.keep k hno
  have ks : Keeps w1 (w1.setCell ⟨ab, 3, none⟩ (.slice A' l'.length c')) [ab] := (Keeps.refl w1 [ab]).setCell (.inl (by simp)) _
  have v1 := (h.labels.kept k (h.labels.out h.code)).kept ks (by simp only [List.mem_cons, List.not_mem_nil, or_false]; exact h.labels.ne h.blk)
  have one : ∀ {Q : Option Addr}, ab ∉ ownL (.slice Q 0 0) → ∀ b ∈ [ab], b ∉ ownL (.slice Q 0 0) := fun hq b hb' => by simp at hb'; subst hb'; exact hq
  have b2 := b1.set_ 3 (.slice A' l'.length c')
  have e0 := own_keepA ho ks (one (own_outA ho b1 (by decide)))
  have e1 := own_keepA (own_keepA h.atoms k (own_disjA h.code h.atoms (by decide))) ks (one (own_outA h.atoms h.blk (by decide)))
  have e2 := own_keepA (own_keepA h.funs k (own_disjA h.code h.funs (by decide))) ks (one (own_outA h.funs h.blk (by decide)))
  have e3 := own_keepA (own_keepA h.preds k (own_disjA h.code h.preds (by decide))) ks (one (own_outA h.preds h.blk (by decide)))
  have e4 := own_keepA (own_keepA h.uses k (own_disjA h.code h.uses (by decide))) ks (one (own_outA h.uses h.blk (by decide)))
  have e5 := own_keepA (own_keepA h.begins k (own_disjA h.code h.begins (by decide))) ks (one (own_outA h.begins h.blk (by decide)))
  exact ⟨by simpa using b2, e1, e2, e3, e0, e4, e5, v1, h.low, ks.below (h.bel_ k (fun b hb' => (own_ltA h.code b hb').1)) (by simp only [List.mem_cons, List.not_mem_nil, or_false]; rintro _ rfl; exact h.low.1) (Nat.le_trans h.bel.size k.size), h.st⟩
theorem AsM.code_in (h : AsM w0 w ab vb AA FA PA CA UA BA ca cf cp cc cu cb nl S) {w1 : World} (k : Keeps w w1 (ownL (.slice CA 0 0))) {l' : List LIns} (hl : l'.length = S.o.code.length) (ho : w1.ownsRow w0.heap.size 79 5 (.slice CA S.o.code.length cc) S.o.code.length (l'.flatMap insE)) :
    AsM w0 w1 ab vb AA FA PA CA UA BA ca cf cp cc cu cb nl { S with o := { S.o with code := l' } } := by
  have hno := own_outA h.code h.blk (by decide)
  have b1 := h.blk.keep k hno
  have v1 := h.labels.kept k (h.labels.out h.code)
  rw [← hl] at ho b1
  have e1 := own_keepA h.atoms k (own_disjA h.code h.atoms (by decide))
  have e2 := own_keepA h.funs k (own_disjA h.code h.funs (by decide))
  have e3 := own_keepA h.preds k (own_disjA h.code h.preds (by decide))
  have e4 := own_keepA h.uses k (own_disjA h.code h.uses (by decide))
  have e5 := own_keepA h.begins k (own_disjA h.code h.begins (by decide))
  exact ⟨b1, e1, e2, e3, ho, e4, e5, v1, h.low, h.bel_ k (fun b hb' => (own_ltA h.code b hb').1), h.st⟩
/-- .. uses turn. -/
theorem AsM.uses_ (h : AsM w0 w ab vb AA FA PA CA UA BA ca cf cp cc cu cb nl S) {w1 : World} (k : Keeps w w1 (ownL (.slice UA 0 0))) {A' : Option Addr} {c' : Nat} {l' : List (Nat × Nat × Nat)} (ho : w1.ownsRow w0.heap.size 105 3 (.slice A' l'.length c') l'.length (l'.flatMap useE)) :
    AsM w0 (w1.setCell ⟨ab, 5, none⟩ (.slice A' l'.length c')) ab vb AA FA PA CA A' BA ca cf cp cc c' cb nl { S with uses := l' } := by
  have hno := own_outA h.uses h.blk (by decide)
  have b1 := h.blk.keep k hno
  have ks : Keeps w1 (w1.setCell ⟨ab, 5, none⟩ (.slice A' l'.length c')) [ab] := (Keeps.refl w1 [ab]).setCell (.inl (by simp)) _
  have v1 := (h.labels.kept k (h.labels.out h.uses)).kept ks (by simp only [List.mem_cons, List.not_mem_nil, or_false]; exact h.labels.ne h.blk)
  have one : ∀ {Q : Option Addr}, ab ∉ ownL (.slice Q 0 0) → ∀ b ∈ [ab], b ∉ ownL (.slice Q 0 0) := fun hq b hb' => by simp at hb'; subst hb'; exact hq
  have b2 := b1.set_ 5 (.slice A' l'.length c')
  have e0 := own_keepA ho ks (one (own_outA ho b1 (by decide)))
  have e1 := own_keepA (own_keepA h.atoms k (own_disjA h.uses h.atoms (by decide))) ks (one (own_outA h.atoms h.blk (by decide)))
  have e2 := own_keepA (own_keepA h.funs k (own_disjA h.uses h.funs (by decide))) ks (one (own_outA h.funs h.blk (by decide)))
  have e3 := own_keepA (own_keepA h.preds k (own_disjA h.uses h.preds (by decide))) ks (one (own_outA h.preds h.blk (by decide)))
  have e4 := own_keepA (own_keepA h.code k (own_disjA h.uses h.code (by decide))) ks (one (own_outA h.code h.blk (by decide)))
  have e5 := own_keepA (own_keepA h.begins k (own_disjA h.uses h.begins (by decide))) ks (one (own_outA h.begins h.blk (by decide)))
  exact ⟨by simpa using b2, e1, e2, e3, e4, e0, e5, v1, h.low, ks.below (h.bel_ k (fun b hb' => (own_ltA h.uses b hb').1)) (by simp only [List.mem_cons, List.not_mem_nil, or_false]; rintro _ rfl; exact h.low.1) (Nat.le_trans h.bel.size k.size), h.st⟩
theorem AsM.uses_in (h : AsM w0 w ab vb AA FA PA CA UA BA ca cf cp cc cu cb nl S) {w1 : World} (k : Keeps w w1 (ownL (.slice UA 0 0))) {l' : List (Nat × Nat × Nat)} (hl : l'.length = S.uses.length) (ho : w1.ownsRow w0.heap.size 105 3 (.slice UA S.uses.length cu) S.uses.length (l'.flatMap useE)) :
    AsM w0 w1 ab vb AA FA PA CA UA BA ca cf cp cc cu cb nl { S with uses := l' } := by
  have hno := own_outA h.uses h.blk (by decide)
  have b1 := h.blk.keep k hno
  have v1 := h.labels.kept k (h.labels.out h.uses)
  rw [← hl] at ho b1
  have e1 := own_keepA h.atoms k (own_disjA h.uses h.atoms (by decide))
  have e2 := own_keepA h.funs k (own_disjA h.uses h.funs (by decide))
  have e3 := own_keepA h.preds k (own_disjA h.uses h.preds (by decide))
  have e4 := own_keepA h.code k (own_disjA h.uses h.code (by decide))
  have e5 := own_keepA h.begins k (own_disjA h.uses h.begins (by decide))
  exact ⟨b1, e1, e2, e3, e4, ho, e5, v1, h.low, h.bel_ k (fun b hb' => (own_ltA h.uses b hb').1), h.st⟩
/-- .. begins turn. -/
theorem AsM.begins_ (h : AsM w0 w ab vb AA FA PA CA UA BA ca cf cp cc cu cb nl S) {w1 : World} (k : Keeps w w1 (ownL (.slice BA 0 0))) {A' : Option Addr} {c' : Nat} {l' : List (Nat × Nat)} (ho : w1.ownsRow w0.heap.size 108 2 (.slice A' l'.length c') l'.length (l'.flatMap begE)) :
    AsM w0 (w1.setCell ⟨ab, 6, none⟩ (.slice A' l'.length c')) ab vb AA FA PA CA UA A' ca cf cp cc cu c' nl { S with begins := l' } := by
  have hno := own_outA h.begins h.blk (by decide)
  have b1 := h.blk.keep k hno
  have ks : Keeps w1 (w1.setCell ⟨ab, 6, none⟩ (.slice A' l'.length c')) [ab] := (Keeps.refl w1 [ab]).setCell (.inl (by simp)) _
  have v1 := (h.labels.kept k (h.labels.out h.begins)).kept ks (by simp only [List.mem_cons, List.not_mem_nil, or_false]; exact h.labels.ne h.blk)
  have one : ∀ {Q : Option Addr}, ab ∉ ownL (.slice Q 0 0) → ∀ b ∈ [ab], b ∉ ownL (.slice Q 0 0) := fun hq b hb' => by simp at hb'; subst hb'; exact hq
  have b2 := b1.set_ 6 (.slice A' l'.length c')
  have e0 := own_keepA ho ks (one (own_outA ho b1 (by decide)))
  have e1 := own_keepA (own_keepA h.atoms k (own_disjA h.begins h.atoms (by decide))) ks (one (own_outA h.atoms h.blk (by decide)))
  have e2 := own_keepA (own_keepA h.funs k (own_disjA h.begins h.funs (by decide))) ks (one (own_outA h.funs h.blk (by decide)))
  have e3 := own_keepA (own_keepA h.preds k (own_disjA h.begins h.preds (by decide))) ks (one (own_outA h.preds h.blk (by decide)))
  have e4 := own_keepA (own_keepA h.code k (own_disjA h.begins h.code (by decide))) ks (one (own_outA h.code h.blk (by decide)))
  have e5 := own_keepA (own_keepA h.uses k (own_disjA h.begins h.uses (by decide))) ks (one (own_outA h.uses h.blk (by decide)))
  exact ⟨by simpa using b2, e1, e2, e3, e4, e5, e0, v1, h.low, ks.below (h.bel_ k (fun b hb' => (own_ltA h.begins b hb').1)) (by simp only [List.mem_cons, List.not_mem_nil, or_false]; rintro _ rfl; exact h.low.1) (Nat.le_trans h.bel.size k.size), h.st⟩
theorem AsM.begins_in (h : AsM w0 w ab vb AA FA PA CA UA BA ca cf cp cc cu cb nl S) {w1 : World} (k : Keeps w w1 (ownL (.slice BA 0 0))) {l' : List (Nat × Nat)} (hl : l'.length = S.begins.length) (ho : w1.ownsRow w0.heap.size 108 2 (.slice BA S.begins.length cb) S.begins.length (l'.flatMap begE)) :
    AsM w0 w1 ab vb AA FA PA CA UA BA ca cf cp cc cu cb nl { S with begins := l' } := by
  have hno := own_outA h.begins h.blk (by decide)
  have b1 := h.blk.keep k hno
  have v1 := h.labels.kept k (h.labels.out h.begins)
  rw [← hl] at ho b1
  have e1 := own_keepA h.atoms k (own_disjA h.begins h.atoms (by decide))
  have e2 := own_keepA h.funs k (own_disjA h.begins h.funs (by decide))
  have e3 := own_keepA h.preds k (own_disjA h.begins h.preds (by decide))
  have e4 := own_keepA h.code k (own_disjA h.begins h.code (by decide))
  have e5 := own_keepA h.uses k (own_disjA h.begins h.uses (by decide))
  exact ⟨b1, e1, e2, e3, e4, e5, ho, v1, h.low, h.bel_ k (fun b hb' => (own_ltA h.begins b hb').1), h.st⟩
/-- .. a label comes. -/
theorem AsM.labels_ (h : AsM w0 w ab vb AA FA PA CA UA BA ca cf cp cc cu cb nl S) {w1 : World} (k : Keeps w w1 [vb]) {n' : Nat} {f : Int → Option Nat} (hv : LM w1 vb n' f) : AsM w0 w1 ab vb AA FA PA CA UA BA ca cf cp cc cu cb n' { S with labels := f } := by
  have one : ∀ {Q : Option Addr}, vb ∉ ownL (.slice Q 0 0) → ∀ b ∈ [vb], b ∉ ownL (.slice Q 0 0) := fun hq b hb' => by simp at hb'; subst hb'; exact hq
  exact ⟨h.blk.keep k (by simp only [List.mem_cons, List.not_mem_nil, or_false]; exact Ne.symm (h.labels.ne h.blk)), own_keepA h.atoms k (one (h.labels.out h.atoms)), own_keepA h.funs k (one (h.labels.out h.funs)), own_keepA h.preds k (one (h.labels.out h.preds)), own_keepA h.code k (one (h.labels.out h.code)), own_keepA h.uses k (one (h.labels.out h.uses)), own_keepA h.begins k (one (h.labels.out h.begins)), hv, h.low, h.bel_ k (by simp only [List.mem_cons, List.not_mem_nil, or_false]; rintro _ rfl; exact h.low.2), h.st⟩
end
/-- Its blocks are among those of L. -/
def As (w0 w : World) (ab : Nat) (L : List Nat) (nl : Nat) (S : AS) : Prop :=
  ∃ vb AA FA PA CA UA BA ca cf cp cc cu cb, AsM w0 w ab vb AA FA PA CA UA BA ca cf cp cc cu cb nl S ∧ (∀ b ∈ asL ab vb AA FA PA CA UA BA, b ∈ L) ∧ ∀ b ∈ L, w0.heap.size ≤ b ∧ b < w.heap.size
theorem As.st_ {w0 w : World} {ab nl : Nat} {L : List Nat} {S : AS} (h : As w0 w ab L nl S) : St w := by
  obtain ⟨_, _, _, _, _, _, _, _, _, _, _, _, _, h, _⟩ := h
  exact h.st_
theorem As.bel {w0 w : World} {ab nl : Nat} {L : List Nat} {S : AS} (h : As w0 w ab L nl S) : Below w0.heap.size w0 w := by
  obtain ⟨_, _, _, _, _, _, _, _, _, _, _, _, _, h, _⟩ := h
  exact h.bel
theorem As.more {w0 w : World} {ab nl n' : Nat} {L : List Nat} {S : AS} (h : As w0 w ab L nl S) (hn : nl ≤ n') : As w0 w ab L n' S := by
  obtain ⟨_, _, _, _, _, _, _, _, _, _, _, _, _, h, r⟩ := h
  exact ⟨_, _, _, _, _, _, _, _, _, _, _, _, _, h.more hn, r⟩
theorem As.keep {w0 w w' : World} {ab nl : Nat} {L M : List Nat} {S : AS} (h : As w0 w ab L nl S) (k : Keeps w w' M) (hM : ∀ b ∈ M, b ∉ L ∧ w0.heap.size ≤ b) : As w0 w' ab L nl S := by
  obtain ⟨_, _, _, _, _, _, _, _, _, _, _, _, _, h, r1, r2⟩ := h
  exact ⟨_, _, _, _, _, _, _, _, _, _, _, _, _, h.keep k (fun b hb => ⟨fun hm => (hM b hb).1 (r1 b hm), (hM b hb).2⟩), r1, fun b hb => ⟨(r2 b hb).1, Nat.lt_of_lt_of_le (r2 b hb).2 k.size⟩⟩
theorem As.keep0 {w0 w w' : World} {ab nl : Nat} {L : List Nat} {S : AS} (h : As w0 w ab L nl S) (k : Keeps w w' []) : As w0 w' ab L nl S := h.keep k (by simp)
theorem As.lt {w0 w : World} {ab nl : Nat} {L : List Nat} {S : AS} (h : As w0 w ab L nl S) : ∀ b ∈ L, w0.heap.size ≤ b ∧ b < w.heap.size := by
  obtain ⟨_, _, _, _, _, _, _, _, _, _, _, _, _, _, _, r2⟩ := h
  exact r2
theorem AsM.atoms_pack {w0 w : World} {ab vb : Nat} {AA FA PA CA UA BA : Option Addr} {ca cf cp cc cu cb nl : Nat} {S : AS} {L : List Nat} (h : AsM w0 w ab vb AA FA PA CA UA BA ca cf cp cc cu cb nl S) (hL : ∀ b ∈ asL ab vb AA FA PA CA UA BA, b ∈ L) (hlt : ∀ b ∈ L, w0.heap.size ≤ b ∧ b < w.heap.size) {w1 : World} (k : Keeps w w1 (ownL (.slice AA 0 0))) {A' : Option Addr} {c' : Nat} {l' : List ByteArray} (ho : w1.ownsRow w0.heap.size 9 1 (.slice A' l'.length c') l'.length (l'.flatMap strE)) (hn : ∀ b ∈ ownL (.slice A' 0 0), b ∈ ownL (.slice AA 0 0) ∨ w.heap.size ≤ b) :
    ∃ L', As w0 (w1.setCell ⟨ab, 0, none⟩ (.slice A' l'.length c')) ab L' nl { S with o := { S.o with atoms := l' } } ∧ ASt w L (w1.setCell ⟨ab, 0, none⟩ (.slice A' l'.length c')) L' := by
  have hm := h.atoms_ k ho
  have hin : ∀ b ∈ ownL (.slice AA 0 0), b ∈ L := fun b hb => hL b (by unfold asL; simp only [List.mem_append]; simp [hb])
  refine ⟨L ++ ownL (.slice A' 0 0), ⟨_, _, _, _, _, _, _, _, _, _, _, _, _, hm, fun b hb => ?_, fun b hb => ?_⟩, ⟨(k.more (fun b _ hb => hin b hb)).setCell (.inl (hL ab (by unfold asL; simp))) _, fun b hb => ?_⟩⟩
  · unfold asL at hb hL
    simp only [List.mem_append] at hb hL ⊢
    rcases hb with hb | hb | hb | hb | hb | hb | hb
    · exact .inl (hL b (by simp [hb]))
    · exact .inr hb
    · exact .inl (hL b (by simp [hb]))
    · exact .inl (hL b (by simp [hb]))
    · exact .inl (hL b (by simp [hb]))
    · exact .inl (hL b (by simp [hb]))
    · exact .inl (hL b (by simp [hb]))
  · have hs := k.size
    have hz : (w1.setCell ⟨ab, 0, none⟩ (.slice A' l'.length c')).heap.size = w1.heap.size := by simp [World.setCell]
    rw [hz]
    rcases List.mem_append.1 hb with hb | hb
    · have := hlt b hb
      exact ⟨this.1, by omega⟩
    · have := own_ltA ho b hb
      exact ⟨this.1, by omega⟩
  · rcases List.mem_append.1 hb with hb | hb
    · exact .inl hb
    · rcases hn b hb with h1 | h1
      · exact .inl (hin b h1)
      · exact .inr h1
theorem AsM.funs_pack {w0 w : World} {ab vb : Nat} {AA FA PA CA UA BA : Option Addr} {ca cf cp cc cu cb nl : Nat} {S : AS} {L : List Nat} (h : AsM w0 w ab vb AA FA PA CA UA BA ca cf cp cc cu cb nl S) (hL : ∀ b ∈ asL ab vb AA FA PA CA UA BA, b ∈ L) (hlt : ∀ b ∈ L, w0.heap.size ≤ b ∧ b < w.heap.size) {w1 : World} (k : Keeps w w1 (ownL (.slice FA 0 0))) {A' : Option Addr} {c' : Nat} {l' : List LFun} (ho : w1.ownsRow w0.heap.size 77 2 (.slice A' l'.length c') l'.length (l'.flatMap funE)) (hn : ∀ b ∈ ownL (.slice A' 0 0), b ∈ ownL (.slice FA 0 0) ∨ w.heap.size ≤ b) :
    ∃ L', As w0 (w1.setCell ⟨ab, 1, none⟩ (.slice A' l'.length c')) ab L' nl { S with o := { S.o with funs := l' } } ∧ ASt w L (w1.setCell ⟨ab, 1, none⟩ (.slice A' l'.length c')) L' := by
  have hm := h.funs_ k ho
  have hin : ∀ b ∈ ownL (.slice FA 0 0), b ∈ L := fun b hb => hL b (by unfold asL; simp only [List.mem_append]; simp [hb])
  refine ⟨L ++ ownL (.slice A' 0 0), ⟨_, _, _, _, _, _, _, _, _, _, _, _, _, hm, fun b hb => ?_, fun b hb => ?_⟩, ⟨(k.more (fun b _ hb => hin b hb)).setCell (.inl (hL ab (by unfold asL; simp))) _, fun b hb => ?_⟩⟩
  · unfold asL at hb hL
    simp only [List.mem_append] at hb hL ⊢
    rcases hb with hb | hb | hb | hb | hb | hb | hb
    · exact .inl (hL b (by simp [hb]))
    · exact .inl (hL b (by simp [hb]))
    · exact .inr hb
    · exact .inl (hL b (by simp [hb]))
    · exact .inl (hL b (by simp [hb]))
    · exact .inl (hL b (by simp [hb]))
    · exact .inl (hL b (by simp [hb]))
  · have hs := k.size
    have hz : (w1.setCell ⟨ab, 1, none⟩ (.slice A' l'.length c')).heap.size = w1.heap.size := by simp [World.setCell]
    rw [hz]
    rcases List.mem_append.1 hb with hb | hb
    · have := hlt b hb
      exact ⟨this.1, by omega⟩
    · have := own_ltA ho b hb
      exact ⟨this.1, by omega⟩
  · rcases List.mem_append.1 hb with hb | hb
    · exact .inl hb
    · rcases hn b hb with h1 | h1
      · exact .inl (hin b h1)
      · exact .inr h1
theorem AsM.preds_pack {w0 w : World} {ab vb : Nat} {AA FA PA CA UA BA : Option Addr} {ca cf cp cc cu cb nl : Nat} {S : AS} {L : List Nat} (h : AsM w0 w ab vb AA FA PA CA UA BA ca cf cp cc cu cb nl S) (hL : ∀ b ∈ asL ab vb AA FA PA CA UA BA, b ∈ L) (hlt : ∀ b ∈ L, w0.heap.size ≤ b ∧ b < w.heap.size) {w1 : World} (k : Keeps w w1 (ownL (.slice PA 0 0))) {A' : Option Addr} {c' : Nat} {l' : List LPred} (ho : w1.ownsRow w0.heap.size 52 3 (.slice A' l'.length c') l'.length (l'.flatMap predE)) (hn : ∀ b ∈ ownL (.slice A' 0 0), b ∈ ownL (.slice PA 0 0) ∨ w.heap.size ≤ b) :
    ∃ L', As w0 (w1.setCell ⟨ab, 2, none⟩ (.slice A' l'.length c')) ab L' nl { S with o := { S.o with preds := l' } } ∧ ASt w L (w1.setCell ⟨ab, 2, none⟩ (.slice A' l'.length c')) L' := by
  have hm := h.preds_ k ho
  have hin : ∀ b ∈ ownL (.slice PA 0 0), b ∈ L := fun b hb => hL b (by unfold asL; simp only [List.mem_append]; simp [hb])
  refine ⟨L ++ ownL (.slice A' 0 0), ⟨_, _, _, _, _, _, _, _, _, _, _, _, _, hm, fun b hb => ?_, fun b hb => ?_⟩, ⟨(k.more (fun b _ hb => hin b hb)).setCell (.inl (hL ab (by unfold asL; simp))) _, fun b hb => ?_⟩⟩
  · unfold asL at hb hL
    simp only [List.mem_append] at hb hL ⊢
    rcases hb with hb | hb | hb | hb | hb | hb | hb
    · exact .inl (hL b (by simp [hb]))
    · exact .inl (hL b (by simp [hb]))
    · exact .inl (hL b (by simp [hb]))
    · exact .inr hb
    · exact .inl (hL b (by simp [hb]))
    · exact .inl (hL b (by simp [hb]))
    · exact .inl (hL b (by simp [hb]))
  · have hs := k.size
    have hz : (w1.setCell ⟨ab, 2, none⟩ (.slice A' l'.length c')).heap.size = w1.heap.size := by simp [World.setCell]
    rw [hz]
    rcases List.mem_append.1 hb with hb | hb
    · have := hlt b hb
      exact ⟨this.1, by omega⟩
    · have := own_ltA ho b hb
      exact ⟨this.1, by omega⟩
  · rcases List.mem_append.1 hb with hb | hb
    · exact .inl hb
    · rcases hn b hb with h1 | h1
      · exact .inl (hin b h1)
      · exact .inr h1
theorem AsM.code_pack {w0 w : World} {ab vb : Nat} {AA FA PA CA UA BA : Option Addr} {ca cf cp cc cu cb nl : Nat} {S : AS} {L : List Nat} (h : AsM w0 w ab vb AA FA PA CA UA BA ca cf cp cc cu cb nl S) (hL : ∀ b ∈ asL ab vb AA FA PA CA UA BA, b ∈ L) (hlt : ∀ b ∈ L, w0.heap.size ≤ b ∧ b < w.heap.size) {w1 : World} (k : Keeps w w1 (ownL (.slice CA 0 0))) {A' : Option Addr} {c' : Nat} {l' : List LIns} (ho : w1.ownsRow w0.heap.size 79 5 (.slice A' l'.length c') l'.length (l'.flatMap insE)) (hn : ∀ b ∈ ownL (.slice A' 0 0), b ∈ ownL (.slice CA 0 0) ∨ w.heap.size ≤ b) :
    ∃ L', As w0 (w1.setCell ⟨ab, 3, none⟩ (.slice A' l'.length c')) ab L' nl { S with o := { S.o with code := l' } } ∧ ASt w L (w1.setCell ⟨ab, 3, none⟩ (.slice A' l'.length c')) L' := by
  have hm := h.code_ k ho
  have hin : ∀ b ∈ ownL (.slice CA 0 0), b ∈ L := fun b hb => hL b (by unfold asL; simp only [List.mem_append]; simp [hb])
  refine ⟨L ++ ownL (.slice A' 0 0), ⟨_, _, _, _, _, _, _, _, _, _, _, _, _, hm, fun b hb => ?_, fun b hb => ?_⟩, ⟨(k.more (fun b _ hb => hin b hb)).setCell (.inl (hL ab (by unfold asL; simp))) _, fun b hb => ?_⟩⟩
  · unfold asL at hb hL
    simp only [List.mem_append] at hb hL ⊢
    rcases hb with hb | hb | hb | hb | hb | hb | hb
    · exact .inl (hL b (by simp [hb]))
    · exact .inl (hL b (by simp [hb]))
    · exact .inl (hL b (by simp [hb]))
    · exact .inl (hL b (by simp [hb]))
    · exact .inr hb
    · exact .inl (hL b (by simp [hb]))
    · exact .inl (hL b (by simp [hb]))
  · have hs := k.size
    have hz : (w1.setCell ⟨ab, 3, none⟩ (.slice A' l'.length c')).heap.size = w1.heap.size := by simp [World.setCell]
    rw [hz]
    rcases List.mem_append.1 hb with hb | hb
    · have := hlt b hb
      exact ⟨this.1, by omega⟩
    · have := own_ltA ho b hb
      exact ⟨this.1, by omega⟩
  · rcases List.mem_append.1 hb with hb | hb
    · exact .inl hb
    · rcases hn b hb with h1 | h1
      · exact .inl (hin b h1)
      · exact .inr h1
theorem AsM.uses_pack {w0 w : World} {ab vb : Nat} {AA FA PA CA UA BA : Option Addr} {ca cf cp cc cu cb nl : Nat} {S : AS} {L : List Nat} (h : AsM w0 w ab vb AA FA PA CA UA BA ca cf cp cc cu cb nl S) (hL : ∀ b ∈ asL ab vb AA FA PA CA UA BA, b ∈ L) (hlt : ∀ b ∈ L, w0.heap.size ≤ b ∧ b < w.heap.size) {w1 : World} (k : Keeps w w1 (ownL (.slice UA 0 0))) {A' : Option Addr} {c' : Nat} {l' : List (Nat × Nat × Nat)} (ho : w1.ownsRow w0.heap.size 105 3 (.slice A' l'.length c') l'.length (l'.flatMap useE)) (hn : ∀ b ∈ ownL (.slice A' 0 0), b ∈ ownL (.slice UA 0 0) ∨ w.heap.size ≤ b) :
    ∃ L', As w0 (w1.setCell ⟨ab, 5, none⟩ (.slice A' l'.length c')) ab L' nl { S with uses := l' } ∧ ASt w L (w1.setCell ⟨ab, 5, none⟩ (.slice A' l'.length c')) L' := by
  have hm := h.uses_ k ho
  have hin : ∀ b ∈ ownL (.slice UA 0 0), b ∈ L := fun b hb => hL b (by unfold asL; simp only [List.mem_append]; simp [hb])
  refine ⟨L ++ ownL (.slice A' 0 0), ⟨_, _, _, _, _, _, _, _, _, _, _, _, _, hm, fun b hb => ?_, fun b hb => ?_⟩, ⟨(k.more (fun b _ hb => hin b hb)).setCell (.inl (hL ab (by unfold asL; simp))) _, fun b hb => ?_⟩⟩
  · unfold asL at hb hL
    simp only [List.mem_append] at hb hL ⊢
    rcases hb with hb | hb | hb | hb | hb | hb | hb
    · exact .inl (hL b (by simp [hb]))
    · exact .inl (hL b (by simp [hb]))
    · exact .inl (hL b (by simp [hb]))
    · exact .inl (hL b (by simp [hb]))
    · exact .inl (hL b (by simp [hb]))
    · exact .inr hb
    · exact .inl (hL b (by simp [hb]))
  · have hs := k.size
    have hz : (w1.setCell ⟨ab, 5, none⟩ (.slice A' l'.length c')).heap.size = w1.heap.size := by simp [World.setCell]
    rw [hz]
    rcases List.mem_append.1 hb with hb | hb
    · have := hlt b hb
      exact ⟨this.1, by omega⟩
    · have := own_ltA ho b hb
      exact ⟨this.1, by omega⟩
  · rcases List.mem_append.1 hb with hb | hb
    · exact .inl hb
    · rcases hn b hb with h1 | h1
      · exact .inl (hin b h1)
      · exact .inr h1
theorem AsM.begins_pack {w0 w : World} {ab vb : Nat} {AA FA PA CA UA BA : Option Addr} {ca cf cp cc cu cb nl : Nat} {S : AS} {L : List Nat} (h : AsM w0 w ab vb AA FA PA CA UA BA ca cf cp cc cu cb nl S) (hL : ∀ b ∈ asL ab vb AA FA PA CA UA BA, b ∈ L) (hlt : ∀ b ∈ L, w0.heap.size ≤ b ∧ b < w.heap.size) {w1 : World} (k : Keeps w w1 (ownL (.slice BA 0 0))) {A' : Option Addr} {c' : Nat} {l' : List (Nat × Nat)} (ho : w1.ownsRow w0.heap.size 108 2 (.slice A' l'.length c') l'.length (l'.flatMap begE)) (hn : ∀ b ∈ ownL (.slice A' 0 0), b ∈ ownL (.slice BA 0 0) ∨ w.heap.size ≤ b) :
    ∃ L', As w0 (w1.setCell ⟨ab, 6, none⟩ (.slice A' l'.length c')) ab L' nl { S with begins := l' } ∧ ASt w L (w1.setCell ⟨ab, 6, none⟩ (.slice A' l'.length c')) L' := by
  have hm := h.begins_ k ho
  have hin : ∀ b ∈ ownL (.slice BA 0 0), b ∈ L := fun b hb => hL b (by unfold asL; simp only [List.mem_append]; simp [hb])
  refine ⟨L ++ ownL (.slice A' 0 0), ⟨_, _, _, _, _, _, _, _, _, _, _, _, _, hm, fun b hb => ?_, fun b hb => ?_⟩, ⟨(k.more (fun b _ hb => hin b hb)).setCell (.inl (hL ab (by unfold asL; simp))) _, fun b hb => ?_⟩⟩
  · unfold asL at hb hL
    simp only [List.mem_append] at hb hL ⊢
    rcases hb with hb | hb | hb | hb | hb | hb | hb
    · exact .inl (hL b (by simp [hb]))
    · exact .inl (hL b (by simp [hb]))
    · exact .inl (hL b (by simp [hb]))
    · exact .inl (hL b (by simp [hb]))
    · exact .inl (hL b (by simp [hb]))
    · exact .inl (hL b (by simp [hb]))
    · exact .inr hb
  · have hs := k.size
    have hz : (w1.setCell ⟨ab, 6, none⟩ (.slice A' l'.length c')).heap.size = w1.heap.size := by simp [World.setCell]
    rw [hz]
    rcases List.mem_append.1 hb with hb | hb
    · have := hlt b hb
      exact ⟨this.1, by omega⟩
    · have := own_ltA ho b hb
      exact ⟨this.1, by omega⟩
  · rcases List.mem_append.1 hb with hb | hb
    · exact .inl hb
    · rcases hn b hb with h1 | h1
      · exact .inl (hin b h1)
      · exact .inr h1
end Go.Proofs.YtpcihhdalofdiaaGreatDoor

/- Words of lines: a number, a name with a number behind a slash, a label: the program's. -/
namespace Go.Proofs.YtpcihhdalofdiaaGreatDoor
open Go.RowKit

theorem idx47 : ∀ l : Txt, (Lib.index l [47] = -1 ∧ l.takeWhile (· != 47) = l ∧ (l.dropWhile (· != 47)).tail = []) ∨ ∃ i : Nat, Lib.index l [47] = i ∧ l.takeWhile (· != 47) = l.take i ∧ (l.dropWhile (· != 47)).tail = l.drop (i + 1)
  | [] => .inl ⟨rfl, rfl, rfl⟩
  | c :: l => by
    by_cases h : c = 47
    · subst h
      exact .inr ⟨0, rfl, rfl, rfl⟩
    · have hp : ([47] : Txt).isPrefixOf (c :: l) = false := by simp [List.isPrefixOf, Ne.symm h]
      have hb : (c != 47) = true := by simpa using h
      have hi : Lib.index (c :: l) [47] = if Lib.index l [47] == -1 then -1 else Lib.index l [47] + 1 := by
        rw [Lib.index, hp]
        rfl
      rw [hi, List.takeWhile_cons, List.dropWhile_cons, hb]
      rcases idx47 l with ⟨h1, h2, h3⟩ | ⟨i, h1, h2, h3⟩
      · exact .inl ⟨by rw [h1]; rfl, by simp [h2], by simpa using h3⟩
      · refine .inr ⟨i + 1, ?_, by simp [h2], by simpa using h3⟩
        rw [h1, if_neg (by simp)]
        omega
theorem cut_slash (l : Txt) : (Lib.cut l [47]).1 = (cutT l).1 ∧ (Lib.cut l [47]).2.1 = (cutT l).2 := by
  unfold Lib.cut cutT
  rcases idx47 l with ⟨h1, h2, h3⟩ | ⟨i, h1, h2, h3⟩
  · rw [h1, if_neg (by omega), h2, h3]
    exact ⟨rfl, rfl⟩
  · rw [h1, if_pos (by omega), h2, h3]
    exact ⟨by simp, by simp⟩
theorem cutT_len (l : Txt) : (cutT l).1.length ≤ l.length ∧ (cutT l).2.length ≤ l.length := by
  rcases idx47 l with ⟨_, h2, h3⟩ | ⟨i, _, h2, h3⟩
  · unfold cutT
    rw [h2, h3]
    simp
  · unfold cutT
    rw [h2, h3]
    simp
    omega
theorem cut_any (s : ByteArray) (hl : s.size ≤ 4294967280) (w : World) (h : St w) :
    Calls Tryz.prog 105 #[.string s, .string ⟨#[47]⟩] w fun e w' => (∃ b, e = .returned (.tuple #[.string (wdB (cutT s.data.toList).1), .string (wdB (cutT s.data.toList).2), .bool b])) ∧ Keeps w w' [] := by
  obtain ⟨m, hm⟩ := h.most
  refine (Tryz.strings_Cut s ⟨#[47]⟩ m w (by omega) hm).mono ?_
  rintro e w' ⟨rfl, n, rfl⟩
  obtain ⟨e1, e2⟩ := cut_slash s.data.toList
  refine ⟨⟨(Lib.cut s.data.toList [47]).2.2, ?_⟩, (Keeps.refl _ _).drewN n⟩
  show Ending.returned (.tuple #[.string ⟨(Lib.cut s.data.toList [47]).1.toArray⟩, .string ⟨(Lib.cut s.data.toList [47]).2.1.toArray⟩, .bool (Lib.cut s.data.toList [47]).2.2]) = _
  rw [e1, e2]
  rfl
/-- What strconv.Atoi says, as numM asks. -/
theorem numM_none {l : Txt} {most : Int} (hm : most ≤ 65535) (h : atoiV l = none) : numM l most = -1 := by
  rw [numM_atoi l most hm]
  unfold atoiV at h
  split at h
  · cases h
  · rename_i h2
    split
    · rename_i v hv
      exact absurd hv (h2 v)
    · rfl
theorem numM_some {l : Txt} {most v : Int} (hm : most ≤ 65535) (h : atoiV l = some v) : numM l most = if v < 0 ∨ most < v ∨ Lib.decDigits v.toNat ≠ l then -1 else v := by
  rw [numM_atoi l most hm]
  unfold atoiV at h
  split at h
  · rename_i v' hv
    injection h with h
    subst h
    rw [hv]
  · cases h
set_option maxHeartbeats 1600000 in
theorem number_any (s : ByteArray) (most : Int) (hm : most ≤ 65535) (hl : s.size ≤ 281474976710656) (w : World) (h : St w) :
    Calls Tryz.prog 106 #[.string s, .int .i64 most] w fun e w' => e = .returned (.int .i64 (numM s.data.toList most)) ∧ Keeps w w' [] := by
  have HA := Lib.hid (atoi_any s hl w h)
  have HS := Lib.hid h
  cases hv : atoiV s.data.toList with
  | none =>
    rw [hv] at HA
    have HV := Lib.hid (numM_none hm hv)
    clear hv h
    go_enter Tryz.func106, Tryz.ntmps106
    go_wp2_with fail
    refine HA.out.mono ?_
    rintro e w1 ⟨k1, n, t, p, rfl⟩
    go_wp2_with fail
    go_ret
    exact ⟨by rw [HV.out]; rfl, k1⟩
  | some v =>
    rw [hv] at HA
    have HV := Lib.hid (numM_some hm hv)
    clear hv h
    by_cases h1 : v < 0
    · have HW : Hid (numM s.data.toList most = -1) := by have := HV.out; rw [if_pos (.inl h1)] at this; exact this
      go_enter Tryz.func106, Tryz.ntmps106
      go_wp2_with fail
      refine HA.out.mono ?_
      rintro e w1 ⟨k1, rfl⟩
      go_wp2_with fail
      go_ret
      exact ⟨by rw [HW.out]; rfl, k1⟩
    · by_cases h2 : most < v
      · have HW : Hid (numM s.data.toList most = -1) := by have := HV.out; rw [if_pos (.inr (.inl h2))] at this; exact this
        go_enter Tryz.func106, Tryz.ntmps106
        go_wp2_with fail
        refine HA.out.mono ?_
        rintro e w1 ⟨k1, rfl⟩
        go_wp2_with fail
        go_ret
        exact ⟨by rw [HW.out]; rfl, k1⟩
      · obtain ⟨n, rfl⟩ := Int.eq_ofNat_of_zero_le (Int.not_lt.1 h1)
        have HI : Hid (∀ w1, Keeps w w1 [] → Calls Tryz.prog 35 #[.int .i64 (n : Int)] w1 fun e w' => e = .returned (.string (stB (Lib.decDigits n))) ∧ Keeps w1 w' []) := fun w1 k1 => itoa_any n (by omega) w1 (HS.out.keep k1).tab
        by_cases h3 : Lib.decDigits n = s.data.toList
        · have HW : Hid (numM s.data.toList most = (n : Int)) := by have := HV.out; rw [if_neg (by rintro (x | x | x) <;> first | omega | exact x (by simpa using h3))] at this; exact this
          have d1 : ((stB (Lib.decDigits n)).toList == s.toList) = true := by rw [h3, stB_of]; simp
          have d2 : (stB (Lib.decDigits n)).toList = s.toList := by rw [h3, stB_of]
          clear h3
          go_enter Tryz.func106, Tryz.ntmps106
          go_wp2_with fail
          refine HA.out.mono ?_
          rintro e w1 ⟨k1, rfl⟩
          have HK1 := Lib.hid k1
          have HI1 := Lib.hid (HI.out w1 k1)
          clear k1
          go_wp2_with fail
          refine HI1.out.mono ?_
          rintro e w2 ⟨rfl, k2⟩
          go_wp2_with fail
          go_ret
          exact ⟨by rw [HW.out]; rfl, HK1.out.trans k2⟩
        · have HW : Hid (numM s.data.toList most = -1) := by have := HV.out; rw [if_pos (.inr (.inr (by simpa using h3)))] at this; exact this
          have d2 : ¬ (stB (Lib.decDigits n)).toList = s.toList := fun e => h3 (by rw [ByteArray.toList_eq, ByteArray.toList_eq, stB_list] at e; exact e)
          have d1 : ((stB (Lib.decDigits n)).toList == s.toList) = false := by simpa using d2
          clear h3
          go_enter Tryz.func106, Tryz.ntmps106
          go_wp2_with fail
          refine HA.out.mono ?_
          rintro e w1 ⟨k1, rfl⟩
          have HK1 := Lib.hid k1
          have HI1 := Lib.hid (HI.out w1 k1)
          clear k1
          go_wp2_with fail
          refine HI1.out.mono ?_
          rintro e w2 ⟨rfl, k2⟩
          go_wp2_with fail
          go_ret
          exact ⟨by rw [HW.out]; rfl, HK1.out.trans k2⟩
/-- A word as a name with a number, and whether it is one. -/
def funV (l : Txt) : LFun := ⟨wdB (cutT l).1, numM (cutT l).2 8⟩
theorem slash_funV {l : Txt} {k : Int} {f : LFun} (h : slashP l k = some f) : f = funV l := by
  unfold slashP at h
  split at h
  · exact (Option.some.inj h).symm
  · cases h
theorem slash_is (l : Txt) (k : Int) : (slashP l k).isSome = (nameOk (wdB (cutT l).1) && decide (k ≤ numM (cutT l).2 8)) := by
  unfold slashP
  by_cases h : nameOk (wdB (cutT l).1) = true ∧ k ≤ numM (cutT l).2 8
  · rw [if_pos h, h.1]
    simp [h.2]
  · rw [if_neg h]
    cases h1 : nameOk (wdB (cutT l).1) with
    | false => rfl
    | true => simp at h; simp [h1] at h; simp; omega
set_option maxHeartbeats 1600000 in
theorem fun9_any (s : ByteArray) (k : Int) (hl : s.size ≤ 4294967280) (w : World) (h : St w) :
    Calls Tryz.prog 74 #[.string s, .int .i64 k] w fun e w' => e = .returned (.tuple #[.agg #[.string (funV s.data.toList).name, .int .i64 (funV s.data.toList).arity], .bool (slashP s.data.toList k).isSome]) ∧ Keeps w w' [] := by
  have HK0 : Hid (Keeps w (w.alloc (.cells #[.string ⟨#[]⟩, .int .i64 0] 77)) []) := (Keeps.refl w []).alloc _
  have HBx : Hid (Blk (w.alloc (.cells #[.string ⟨#[]⟩, .int .i64 0] 77)) w.heap.size 77 #[.string ⟨#[]⟩, .int .i64 0]) := Blk.new _ _ _
  have HC := Lib.hid (cut_any s hl _ (h.keep HK0.out))
  obtain ⟨a, ha⟩ : ∃ a, wdB (cutT s.data.toList).1 = a := ⟨_, rfl⟩
  obtain ⟨d, hd⟩ : ∃ d, wdB (cutT s.data.toList).2 = d := ⟨_, rfl⟩
  have hds : d.size ≤ 4294967280 := by
    rw [← hd]
    have := (cutT_len s.data.toList).2
    have e1 : (wdB (cutT s.data.toList).2).size = (cutT s.data.toList).2.length := by simp [wdB, ByteArray.size]
    have e2 : s.data.toList.length = s.size := rfl
    omega
  have hdl : d.data.toList = (cutT s.data.toList).2 := by rw [← hd]; simp [wdB]
  obtain ⟨n, hn⟩ : ∃ n, numM d.data.toList 8 = n := ⟨_, rfl⟩
  have HN : Hid (∀ w1, Keeps w w1 [] → Calls Tryz.prog 106 #[.string d, .int .i64 8] w1 fun e w' => e = .returned (.int .i64 n) ∧ Keeps w1 w' []) := fun w1 k1 => by
    have := number_any d 8 (by omega) (by omega) w1 (h.keep k1)
    rw [hn] at this
    exact this
  have HF : Hid (funV s.data.toList = ⟨a, n⟩) := Lib.hid (by unfold funV; rw [ha, ← hdl, hn])
  have HB : Hid ((slashP s.data.toList k).isSome = (nameOk a && decide (k ≤ n))) := Lib.hid (by rw [slash_is, ha, ← hdl, hn])
  rw [ha, hd] at HC
  have HNm : Hid (∀ w1, Calls Tryz.prog 58 #[.string a] w1 fun e w' => e = .returned (.bool (nameOk a)) ∧ Keeps w1 w' []) := name_any a
  clear ha hd hds hdl hn h
  cases hb : nameOk a with
  | false =>
    rw [hb] at HNm HB
    go_enter Tryz.func74, Tryz.ntmps74
    go_wp2_with fail
    refine HC.out.mono ?_
    rintro e w1 ⟨⟨bb, rfl⟩, k1⟩
    have HK1 := Lib.hid (HK0.out.trans k1)
    have HB1 := Lib.hid (HBx.out.keep k1 (by simp))
    have HN1 := Lib.hid (HN.out w1 HK1.out)
    clear k1
    go_wp2_with fail
    refine HN1.out.mono ?_
    rintro e w2 ⟨rfl, k2⟩
    have HK2 := Lib.hid (HK1.out.trans k2)
    have HB2 := Lib.hid (HB1.out.keep k2 (by simp))
    clear k2
    go_wp2_with fail
    refine (HNm.out _).mono ?_
    rintro e w3 ⟨rfl, k3⟩
    have HK3 := Lib.hid (HK2.out.trans k3)
    have HB3 := Lib.hid (HB2.out.keep k3 (by simp))
    have HE := Lib.hid (((HB3.out.set_ 0 (.string a)).set_ 1 (.int .i64 n)))
    have HKE : Hid (Keeps w ((w3.setCell ⟨w.heap.size, 0, none⟩ (.string a)).setCell ⟨w.heap.size, 1, none⟩ (.int .i64 n)) []) := (HK3.out.setCell (.inr (Nat.le_refl _)) _).setCell (.inr (Nat.le_refl _)) _
    have f0 := HB3.out.frozen 0
    have f1 := HB3.out.frozen 1
    have v0 := HB3.out.cell 0
    have v1 := HB3.out.cell 1
    have y0 := HE.out.cell 0
    have y1 := HE.out.cell 1
    clear k3
    go_wp2_with fail
    refine bodyPost_ret (v := .tuple #[.agg #[.string a, .int .i64 n], .bool (false)]) (by simp [results, Tryz.results74, go_sem, y0, y1]) rfl ⟨by rw [HF.out, HB.out]; rfl, HKE.out⟩
  | true =>
    rw [hb] at HNm HB
    go_enter Tryz.func74, Tryz.ntmps74
    go_wp2_with fail
    refine HC.out.mono ?_
    rintro e w1 ⟨⟨bb, rfl⟩, k1⟩
    have HK1 := Lib.hid (HK0.out.trans k1)
    have HB1 := Lib.hid (HBx.out.keep k1 (by simp))
    have HN1 := Lib.hid (HN.out w1 HK1.out)
    clear k1
    go_wp2_with fail
    refine HN1.out.mono ?_
    rintro e w2 ⟨rfl, k2⟩
    have HK2 := Lib.hid (HK1.out.trans k2)
    have HB2 := Lib.hid (HB1.out.keep k2 (by simp))
    clear k2
    go_wp2_with fail
    refine (HNm.out _).mono ?_
    rintro e w3 ⟨rfl, k3⟩
    have HK3 := Lib.hid (HK2.out.trans k3)
    have HB3 := Lib.hid (HB2.out.keep k3 (by simp))
    have HE := Lib.hid (((HB3.out.set_ 0 (.string a)).set_ 1 (.int .i64 n)))
    have HKE : Hid (Keeps w ((w3.setCell ⟨w.heap.size, 0, none⟩ (.string a)).setCell ⟨w.heap.size, 1, none⟩ (.int .i64 n)) []) := (HK3.out.setCell (.inr (Nat.le_refl _)) _).setCell (.inr (Nat.le_refl _)) _
    have f0 := HB3.out.frozen 0
    have f1 := HB3.out.frozen 1
    have v0 := HB3.out.cell 0
    have v1 := HB3.out.cell 1
    have y0 := HE.out.cell 0
    have y1 := HE.out.cell 1
    clear k3
    go_wp2_with fail
    refine bodyPost_ret (v := .tuple #[.agg #[.string a, .int .i64 n], .bool (decide (k ≤ n))]) (by simp [results, Tryz.results74, go_sem, y0, y1]) rfl ⟨by rw [HF.out, HB.out]; rfl, HKE.out⟩
end Go.Proofs.YtpcihhdalofdiaaGreatDoor

/- Words of lines: labels; operands that are as in an instruction's text; whether a word fits: the program's. -/
namespace Go.Proofs.YtpcihhdalofdiaaGreatDoor
open Go.RowKit Go.Maps

theorem head64 (l : Txt) : Lib.hasPrefix l [64] = decide (l.head? = some 64) := by
  cases l with
  | nil => rfl
  | cons c l =>
    show ([64] : Txt).isPrefixOf (c :: l) = _
    by_cases h : c = 64
    · subst h; simp [List.isPrefixOf]
    · simp [List.isPrefixOf, h, Ne.symm h]
theorem labelP_yes {l : Txt} (h : l.head? = some 64) : labelP l = numM l.tail 1023 := by
  cases l with
  | nil => cases h
  | cons c l =>
    simp at h
    subst h
    rfl
theorem labelP_no {l : Txt} (h : l.head? ≠ some 64) : labelP l = -1 := by
  unfold labelP
  split
  · exact absurd rfl h
  · rfl
theorem extract1 (s : ByteArray) : s.extract 1 s.size = stB s.data.toList.tail := by
  rw [Lib.extract_eq]
  unfold stB
  congr 2
  rw [List.drop_one]
  refine List.take_of_length_le ?_
  rw [List.length_tail]
  exact Nat.le_refl _
theorem size_head {s : ByteArray} (h : s.data.toList.head? = some 64) : 1 ≤ s.size := by
  cases hl : s.data.toList with
  | nil => rw [hl] at h; cases h
  | cons c l =>
    have e2 : s.data.toList.length = s.size := rfl
    rw [← e2, hl]
    simp
set_option maxHeartbeats 800000 in
theorem cutPre_any (s : ByteArray) (w : World) : Calls Tryz.prog 131 #[.string s, .string ⟨#[64]⟩] w fun e w' => w = w' ∧ e = .returned (.tuple #[.string (if s.data.toList.head? = some 64 then stB s.data.toList.tail else s), .bool (decide (s.data.toList.head? = some 64))]) := by
  have HP := Lib.hid (Tryz.stringslite_HasPrefix s ⟨#[64]⟩ w)
  rw [show ((⟨#[64]⟩ : ByteArray).data.toList) = [64] from rfl, head64] at HP
  by_cases h : s.data.toList.head? = some 64
  · have hs := size_head h
    have HE := Lib.hid (extract1 s)
    rw [show decide (s.data.toList.head? = some 64) = true from decide_eq_true h] at HP ⊢
    rw [if_pos h]
    clear h
    go_enter Tryz.func131, Tryz.ntmps131
    go_wp2_with fail
    refine HP.out.mono ?_
    rintro e w1 ⟨rfl, hw⟩
    subst hw
    have b1 : (1 : Int) ≤ (s.size : Int) := by omega
    go_wp2_with fail
    go_ret2
    exact ⟨rfl, by rw [← HE.out]; rfl⟩
  · rw [show decide (s.data.toList.head? = some 64) = false from decide_eq_false h] at HP ⊢
    rw [if_neg h]
    clear h
    go_enter Tryz.func131, Tryz.ntmps131
    go_wp2_with fail
    refine HP.out.mono ?_
    rintro e w1 ⟨rfl, hw⟩
    subst hw
    go_wp2_with fail
    go_ret2
    exact ⟨rfl, rfl⟩
theorem cutPre2_any (s : ByteArray) (w : World) : Calls Tryz.prog 109 #[.string s, .string ⟨#[64]⟩] w fun e w' => w = w' ∧ e = .returned (.tuple #[.string (if s.data.toList.head? = some 64 then stB s.data.toList.tail else s), .bool (decide (s.data.toList.head? = some 64))]) := by
  have HP := Lib.hid (cutPre_any s w)
  generalize (if s.data.toList.head? = some 64 then stB s.data.toList.tail else s) = a at *
  generalize decide (s.data.toList.head? = some 64) = b at *
  go_enter Tryz.func109, Tryz.ntmps109
  go_wp2_with fail
  refine HP.out.mono ?_
  rintro e w1 ⟨hw, rfl⟩
  subst hw
  go_wp2_with fail
  go_ret2
  exact ⟨rfl, rfl⟩
set_option maxHeartbeats 800000 in
theorem label9_any (s : ByteArray) (hl : s.size ≤ 281474976710656) (w : World) (h : St w) :
    Calls Tryz.prog 79 #[.string s] w fun e w' => e = .returned (.int .i64 (labelP s.data.toList)) ∧ Keeps w w' [] := by
  have HP := Lib.hid (cutPre2_any s w)
  by_cases hh : s.data.toList.head? = some 64
  · have HV := Lib.hid (labelP_yes hh)
    have HN : Hid (Calls Tryz.prog 106 #[.string (stB s.data.toList.tail), .int .i64 1023] w fun e w' => e = .returned (.int .i64 (numM s.data.toList.tail 1023)) ∧ Keeps w w' []) := by
      have := number_any (stB s.data.toList.tail) 1023 (by omega) (by
        rw [stB_size, List.length_tail]
        have e2 : s.data.toList.length = s.size := rfl
        omega) w h
      rw [stB_list] at this
      exact this
    rw [if_pos hh, decide_eq_true hh] at HP
    clear hh h
    go_enter Tryz.func79, Tryz.ntmps79
    go_wp2_with fail
    refine HP.out.mono ?_
    rintro e w1 ⟨hw, rfl⟩
    subst hw
    go_wp2_with fail
    refine HN.out.mono ?_
    rintro e w2 ⟨rfl, k2⟩
    go_wp2_with fail
    go_ret
    exact ⟨by rw [HV.out]; rfl, k2⟩
  · have HV := Lib.hid (labelP_no hh)
    rw [if_neg hh, decide_eq_false hh] at HP
    clear hh h
    go_enter Tryz.func79, Tryz.ntmps79
    go_wp2_with fail
    refine HP.out.mono ?_
    rintro e w1 ⟨hw, rfl⟩
    subst hw
    go_wp2_with fail
    go_ret
    exact ⟨by rw [HV.out]; rfl, Keeps.refl _ _⟩
/-! ### plain -/
set_option maxRecDepth 100000 in
theorem LM.look1 {w : World} {b n : Nat} {f : Int → Option Nat} (h : LM w b n f) {x : Int} (hx : I64A x) : (Instr.lookup 54 (.map (some b)) (.int .i64 x) false).run Tryz.prog w = .ok (.int .i64 (((f x).getD 0 : Nat) : Int)) w := by
  obtain ⟨D, h1, h2⟩ := h
  obtain ⟨c, hrun, hat, _⟩ := h1.lookup_int law_int Tryz.underlying54 Tryz.underlying3 (zero_intA w) hx.key
  obtain ⟨_, h4⟩ := h2 x hx
  rw [h4] at hat
  have h6 : (((f x).getD 0 : Nat) : Int) = c := by injection hat with h5; injection h5
  rw [hrun, h6]
def ofM : Int → Option Nat := fun m => if m = 9 then some 24 else if m = 6 then some 15 else if m = 5 then some 9 else if m = 2 then some 5 else if m = 1 then some 6 else none
theorem ofM_is (k : Nat) : (((ofM k).getD 0 : Nat) : Int) = ofK k := by
  unfold ofM ofK
  by_cases h1 : k = 1
  · subst h1; rfl
  by_cases h2 : k = 2
  · subst h2; rfl
  by_cases h5 : k = 5
  · subst h5; rfl
  by_cases h6 : k = 6
  · subst h6; rfl
  by_cases h9 : k = 9
  · subst h9; rfl
  rw [if_neg (by omega), if_neg (by omega), if_neg (by omega), if_neg (by omega), if_neg (by omega), if_neg h1, if_neg h2, if_neg h5, if_neg h6, if_neg h9]
  rfl
theorem ofK_name (k : Nat) : (nameOf (ofK k)).size ≤ 20 := by
  have : ofK k = 6 ∨ ofK k = 5 ∨ ofK k = 9 ∨ ofK k = 15 ∨ ofK k = 24 ∨ ofK k = 0 := by
    unfold ofK
    repeat' split
    all_goals simp
  rcases this with h | h | h | h | h | h <;> rw [h] <;> decide +kernel
theorem ofMap (w : World) : ∃ w5, LM w5 w.heap.size 5 ofM ∧ Keeps w w5 [] ∧ ∃ w1 w2 w3 w4, (Instr.mapUpdate 54 (.map (some w.heap.size)) (.int .i64 1) (.int .i64 6)).run Tryz.prog (w.alloc (.map #[] 0)) = .ok () w1 ∧
    (Instr.mapUpdate 54 (.map (some w.heap.size)) (.int .i64 2) (.int .i64 5)).run Tryz.prog w1 = .ok () w2 ∧ (Instr.mapUpdate 54 (.map (some w.heap.size)) (.int .i64 5) (.int .i64 9)).run Tryz.prog w2 = .ok () w3 ∧
    (Instr.mapUpdate 54 (.map (some w.heap.size)) (.int .i64 6) (.int .i64 15)).run Tryz.prog w3 = .ok () w4 ∧ (Instr.mapUpdate 54 (.map (some w.heap.size)) (.int .i64 9) (.int .i64 24)).run Tryz.prog w4 = .ok () w5 := by
  have i : ∀ x : Int, 0 ≤ x → x ≤ 100 → I64A x := fun x h1 h2 => ⟨by omega, by omega⟩
  obtain ⟨w1, r1, m1, k1⟩ := (LM.made w).put (by omega) (x := 1) (p := 6) (i 1 (by omega) (by omega)) (by omega)
  obtain ⟨w2, r2, m2, k2⟩ := m1.put (by omega) (x := 2) (p := 5) (i 2 (by omega) (by omega)) (by omega)
  obtain ⟨w3, r3, m3, k3⟩ := m2.put (by omega) (x := 5) (p := 9) (i 5 (by omega) (by omega)) (by omega)
  obtain ⟨w4, r4, m4, k4⟩ := m3.put (by omega) (x := 6) (p := 15) (i 6 (by omega) (by omega)) (by omega)
  obtain ⟨w5, r5, m5, k5⟩ := m4.put (by omega) (x := 9) (p := 24) (i 9 (by omega) (by omega)) (by omega)
  refine ⟨w5, m5, ?_, w1, w2, w3, w4, r1, r2, r3, r4, r5⟩
  have k : Keeps (w.alloc (.map #[] 0)) w5 [w.heap.size] := (((k1.trans k2).trans k3).trans k4).trans k5
  have k0 : Keeps w (w.alloc (.map #[] 0)) [] := (Keeps.refl w []).alloc _
  exact Keeps.of_below (Keeps.below k0.toBelow k (by simp) k0.size) []
theorem plainP_ok {k : Nat} {w : Txt} {i : LIns} {e : Int} (h : parseT opP (nameT (ofK k) ++ 32 :: w) = (i, e)) : plainP k w = if e = 0 then i.a0 else -1 := by
  unfold plainP
  rw [h]
attribute [local irreducible] parseT plainP ofK nameOf
set_option maxHeartbeats 3200000 in
set_option maxRecDepth 100000 in
theorem plain9_any (k : Nat) (hk : k ≤ 100) (s : ByteArray) (hl : s.size ≤ 4294967000) (w : World) (h : St w) :
    Calls Tryz.prog 113 #[.int .i64 k, .string s] w fun e w' => e = .returned (.int .i64 (plainP k s.data.toList)) ∧ Keeps w w' [] := by
  obtain ⟨w5, m5, k5, w1, w2, w3, w4, r1, r2, r3, r4, r5⟩ := ofMap w
  have hlk := m5.look1 (x := (k : Int)) ⟨by omega, by omega⟩
  rw [ofM_is] at hlk
  have hnm := ofK_name k
  have hT : stB (nameT (ofK k) ++ 32 :: s.data.toList) = nameOf (ofK k) ++ ⟨#[32]⟩ ++ s := by
    have e1 : nameOf (ofK k) = stB (nameT (ofK k)) := (stB_of _).symm
    have e2 : (⟨#[32]⟩ : ByteArray) = stB [32] := rfl
    have e3 : s = stB s.data.toList := (stB_of s).symm
    rw [e1, e2]
    conv => rhs; rw [e3]
    rw [stB_app, stB_app]
    simp
  have hTs : (stB (nameT (ofK k) ++ 32 :: s.data.toList)).size ≤ 4294967280 := by
    have e2 : s.data.toList.length = s.size := rfl
    have e4 : (nameT (ofK k)).length = (nameOf (ofK k)).size := rfl
    rw [stB_size, List.length_append, List.length_cons, e4]
    omega
  obtain ⟨i, er, hp⟩ : ∃ i er, parseT opP (nameT (ofK k) ++ 32 :: s.data.toList) = (i, er) := ⟨_, _, rfl⟩
  have HPl := Lib.hid (plainP_ok hp)
  have HPa := fun w' (hw' : St w') => parse6_any (stB (nameT (ofK k) ++ 32 :: s.data.toList)) hTs w' hw'
  rw [stB_list, hp] at HPa
  obtain ⟨nm, hnmE⟩ : ∃ nm, nameOf (ofK k) = nm := ⟨_, rfl⟩
  have HNm : Hid (∀ w, Calls Tryz.prog 60 #[.int .i64 (ofK k)] w fun e w' => e = .returned (.string nm) ∧ Keeps w w' []) := fun w => by
    have := name6_any (ofK k) w
    unfold Named6 at this
    rw [hnmE] at this
    exact this
  rw [hnmE] at hnm hT
  rw [hT] at HPa
  unfold insV at HPa
  dsimp only at HPa
  have HPb := Lib.hid HPa
  have hss : (nm ++ (⟨#[32]⟩ : ByteArray)).size ≤ 21 := by
    rw [ByteArray.size_append]
    have : (⟨#[32]⟩ : ByteArray).size = 1 := rfl
    omega
  have ha1 : ∀ w : World, (Op.stringOp .add nm ⟨#[32]⟩).run Tryz.prog w = .ok (.string (nm ++ ⟨#[32]⟩)) w := fun w => run_string_add_sum (P := Tryz.prog) w _ _ (by
    have : (⟨#[32]⟩ : ByteArray).size = 1 := rfl
    omega)
  have ha2 : ∀ w : World, (Op.stringOp .add (nm ++ ⟨#[32]⟩) s).run Tryz.prog w = .ok (.string (nm ++ ⟨#[32]⟩ ++ s)) w := fun w => run_string_add_sum (P := Tryz.prog) w _ _ (by omega)
  have HS5 := Lib.hid (h.keep k5)
  have HK5 := Lib.hid k5
  have hmm := @run_makeMap Tryz.prog
  clear m5 k5 hnm hT hTs hp HPa hnmE h hss
  generalize ofK k = op at *
  go_enter Tryz.func113, Tryz.ntmps113
  go_wp2_with fail
  refine (HNm.out _).mono ?_
  rintro e w6 ⟨rfl, k6⟩
  have HK6 := Lib.hid (HK5.out.trans k6)
  have HS6 := Lib.hid (HS5.out.keep k6)
  clear k6 r1 r2 r3 r4 r5 hlk hmm
  go_wp2_with fail
  refine (HPb.out _ HS6.out).mono ?_
  rintro e w7 ⟨rfl, k7⟩
  have HK7 := Lib.hid (HK6.out.trans k7)
  have HKW : Hid (Keeps w (w7.alloc (.cells #[.int .i64 i.op, .int .i64 i.a0, .int .i64 i.a1, .int .i64 i.a2, .int .i64 i.a3] 79)) []) := HK7.out.alloc _
  clear k7 ha1 ha2
  by_cases he : er = 0
  · have HE : Hid (plainP k s.data.toList = i.a0) := Lib.hid (by rw [HPl.out, if_pos he])
    have d1 : (er == 0) = true := by simpa using he
    have d2 : (er != 0) = false := by simpa using he
    clear he
    go_wp2_with fail
    go_ret
    exact ⟨by rw [HE.out]; rfl, HKW.out⟩
  · have HE : Hid (plainP k s.data.toList = -1) := Lib.hid (by rw [HPl.out, if_neg he])
    have d1 : (er == 0) = false := by simpa using he
    have d2 : (er != 0) = true := by simpa using he
    clear he
    go_wp2_with fail
    go_ret
    exact ⟨by rw [HE.out]; rfl, HKW.out⟩
end Go.Proofs.YtpcihhdalofdiaaGreatDoor

/- Places of names and funs in a list, to which they come. Printed by gen_asidx.py. -/
namespace Go.Proofs.YtpcihhdalofdiaaGreatDoor
open Go.RowKit Go.Maps

theorem str_eqA (a b : ByteArray) : (a.toList == b.toList) = decide (a = b) := by
  by_cases h : a = b
  · subst h; simp
  · rw [decide_eq_false h, beq_eq_false_iff_ne]
    intro e
    rw [ByteArray.toList_eq, ByteArray.toList_eq] at e
    exact h (by cases a; cases b; simpa using e)
theorem idx_atA {α : Type} [DecidableEq α] : ∀ {l : List α} {k : Nat} {x : α}, l[k]? = some x → (∀ y ∈ l.take k, y ≠ x) → l.idxOf x = k
  | [], k, x, hx, _ => by simp at hx
  | a :: l, 0, x, hx, _ => by
    simp at hx
    subst hx
    exact List.idxOf_cons_self
  | a :: l, k + 1, x, hx, hb => by
    have h1 : a ≠ x := hb a (by simp)
    have h2 := idx_atA (l := l) (k := k) (x := x) (by simpa using hx) (fun y hy => hb y (by simp [hy]))
    have h3 : (a == x) = false := by rw [beq_eq_false_iff_ne]; exact h1
    rw [List.idxOf_cons, h3, h2]
    rfl
/-- Its place, or -1. -/
def idxS {α : Type} [DecidableEq α] (l : List α) (x : α) : Int := if x ∈ l then (l.idxOf x : Int) else -1
theorem idxS_at {α : Type} [DecidableEq α] {l : List α} {k : Nat} {x : α} (hx : l[k]? = some x) (hb : ∀ y ∈ l.take k, y ≠ x) : idxS l x = k := by
  unfold idxS
  rw [if_pos (List.mem_of_getElem? hx), idx_atA hx hb]
theorem idxS_no {α : Type} [DecidableEq α] {l : List α} {x : α} (h : x ∉ l) : idxS l x = -1 := by
  unfold idxS
  rw [if_neg h]
theorem idxS_num {α : Type} [DecidableEq α] (l : List α) (x : α) : (0 ≤ idxS l x ∧ idxL l x = l ∧ (idxA l x : Int) = idxS l x) ∨ (idxS l x = -1 ∧ idxL l x = l ++ [x] ∧ idxA l x = l.length) := by
  unfold idxS idxL idxA
  by_cases h : x ∈ l
  · rw [if_pos h, if_pos h, if_pos h]
    exact .inl ⟨by omega, rfl, rfl⟩
  · rw [if_neg h, if_neg h, if_neg h]
    exact .inr ⟨rfl, rfl, rfl⟩
set_option maxRecDepth 100000 in
set_option maxHeartbeats 1600000 in
theorem indexSA_any (x : ByteArray) (A : Option Addr) (n c : Nat) (l : List (ByteArray)) (w : World) (hl : l.length = n) (hn : n ≤ 1000000) (hA : Rd w A (l.flatMap strE)) :
    Calls Tryz.prog 133 #[.slice A n c, (.string x)] w fun e w' => e = .returned (.int .i64 (idxS l x)) ∧ Keeps w w' [] := by
  have HL := Lib.hid hl
  have HA := Lib.hid hA
  have HKw : Hid (Keeps w w []) := Keeps.refl _ _
  clear hl hA
  go_enter Tryz.func133, Tryz.ntmps133
  go_wp2_with fail
  go_loopw [8] (fun i wr => ∃ k : Nat, k ≤ n ∧ i = .int .i64 k ∧ (∀ y ∈ l.take k, y ≠ x) ∧ Keeps w wr []) (fun i _ => n - (intOf i).toNat)
  case atStart => exact ⟨0, Nat.zero_le _, rfl, (fun y hy => by simp at hy), Keeps.refl _ _⟩
  case round =>
    obtain ⟨k, hk, rfl, hb, hkeep⟩ := hrel
    have HB := Lib.hid hb
    have HK := Lib.hid hkeep
    clear hb
    by_cases hlt : k < n
    · obtain ⟨y, hy⟩ := at_of HL.out hlt
      obtain ⟨b, off, rfl, hbl, hc⟩ := (HA.out.keep (HKw.out.trans hkeep)).field strE_len hy (by omega)
      have p0 : (wr.cell? ⟨b, off + k, none⟩) = some (.string y) := by have := hc 0 _ rfl; simpa using this
      have HY := Lib.hid hy
      have b0 : (0 : Int) ≤ (k : Int) := Int.natCast_nonneg _
      have b1 : (k : Int) < (n : Int) := by omega
      clear hy hc hkeep
      by_cases hxy : x = y
      · subst hxy
        have HI : Hid ((idxS l x) = (k : Int)) := by
          exact idxS_at HY.out HB.out
        go_wp2_with fail
        go_ret
        exact ⟨by rw [HI.out]; rfl, HKw.out.trans HK.out⟩
      · have HN : Hid (∀ z ∈ l.take (k + 1), z ≠ x) := fun z hz => by
          rw [List.take_add_one, HY.out] at hz
          rcases List.mem_append.1 hz with hz | hz
          · exact HB.out z hz
          · simp at hz; subst hz; exact fun e => hxy e.symm
        have d0 : (x.toList == y.toList) = false := by rw [str_eqA]; simpa using hxy
        have d1 : ¬ x.toList = y.toList := by simpa using d0
        clear hxy
        go_wp2_with fail
        go_roundw
        case rel => exact ⟨k + 1, by omega, by go_num, HN.out, HK.out⟩
        case measure => simp [intOf]; omega
    · obtain rfl : n = k := by omega
      have HI : Hid ((idxS l x) = -1) := by
        refine idxS_no fun hm => ?_
        have h1 := HB.out
        rw [List.take_of_length_le (by rw [HL.out]; omega)] at h1
        exact h1 x hm rfl
      clear hlt hk hkeep
      go_wp2_with fail
      go_ret
      exact ⟨by rw [HI.out]; rfl, HKw.out.trans HK.out⟩

set_option maxRecDepth 100000 in
set_option maxHeartbeats 1600000 in
theorem indexFA_any (x : LFun) (A : Option Addr) (n c : Nat) (l : List (LFun)) (w : World) (hl : l.length = n) (hn : n ≤ 1000000) (hA : Rd w A (l.flatMap funE)) :
    Calls Tryz.prog 134 #[.slice A n c, (.agg #[.string x.name, .int .i64 x.arity])] w fun e w' => e = .returned (.int .i64 (idxS l x)) ∧ Keeps w w' [] := by
  have HL := Lib.hid hl
  have HA := Lib.hid hA
  have HKw : Hid (Keeps w (w.alloc (.cells #[.string x.name, .int .i64 x.arity] 77)) []) := (Keeps.refl w []).alloc _
  have HBx : Hid (Blk (w.alloc (.cells #[.string x.name, .int .i64 x.arity] 77)) w.heap.size 77 #[.string x.name, .int .i64 x.arity]) := Blk.new _ _ _
  clear hl hA
  go_enter Tryz.func134, Tryz.ntmps134
  go_wp2_with fail
  go_loopw [8] (fun i wr => ∃ k : Nat, k ≤ n ∧ i = .int .i64 k ∧ (∀ y ∈ l.take k, y ≠ x) ∧ Keeps (w.alloc (.cells #[.string x.name, .int .i64 x.arity] 77)) wr []) (fun i _ => n - (intOf i).toNat)
  case atStart => exact ⟨0, Nat.zero_le _, rfl, (fun y hy => by simp at hy), Keeps.refl _ _⟩
  case round =>
    obtain ⟨k, hk, rfl, hb, hkeep⟩ := hrel
    have HB := Lib.hid hb
    have HK := Lib.hid hkeep
    clear hb
    by_cases hlt : k < n
    · obtain ⟨y, hy⟩ := at_of HL.out hlt
      obtain ⟨b, off, rfl, hbl, hc⟩ := (HA.out.keep (HKw.out.trans hkeep)).field funE_len hy (by omega)
      have p0 : (wr.cell? ⟨b, off + k * 2, none⟩) = some (.string y.name) := by have := hc 0 _ rfl; simpa using this
      have p1 : (wr.cell? ⟨b, off + k * 2 + 1, none⟩) = some (.int .i64 y.arity) := hc 1 _ rfl
      have x0 := (HBx.out.keep hkeep (by simp)).cell 0
      have x1 := (HBx.out.keep hkeep (by simp)).cell 1
      have HY := Lib.hid hy
      have b0 : (0 : Int) ≤ (k : Int) := Int.natCast_nonneg _
      have b1 : (k : Int) < (n : Int) := by omega
      clear hy hc hkeep
      by_cases hxy : x = y
      · subst hxy
        have HI : Hid ((idxS l x) = (k : Int)) := by
          exact idxS_at HY.out HB.out
        go_upto_region 4 with fail
        refine wp_region_tx (fun W' => W'.cell? ⟨w.heap.size, 0, none⟩ = some (.string x.name) ∧ W'.cell? ⟨w.heap.size, 1, none⟩ = some (.int .i64 x.arity) ∧ W'.cell? ⟨b, off + k * 2, none⟩ = some (.string x.name) ∧ W'.cell? ⟨b, off + k * 2 + 1, none⟩ = some (.int .i64 x.arity)) [(0, true), (1, true), (2, true), (3, true), (4, true), (5, false)] (by kernel_rfl) (by kernel_rfl) ⟨x0, x1, p0, p1⟩ (fun hHeld => ?_)
        (repeat (first | (refine wpTx_take (v := ?_) rfl (by assumption) ?_ (by rfl) ?_; rotate_left; (focus (intro w' hSw; (try dsimp only at hSw); go_simp; (try with_reducible rfl); done)); simp only [Act.put, List.setIfInBounds_toArray, List.set_cons_zero, List.set_cons_succ]) | (refine wpTx_skip rfl (by assumption) (by rfl) ?_; simp only [Act.put, List.setIfInBounds_toArray, List.set_cons_zero, List.set_cons_succ])))
        refine wpTx_last rfl (fun K hK => ?_)
        go_simp
        refine hK.out _ _ (NoPanic.normal ?_); clear hK K; (try simp only [Act.put, List.setIfInBounds_toArray, List.set_cons_zero, List.set_cons_succ])
        clear x0 x1 p0 p1
        go_wp2_with fail
        go_ret
        exact ⟨by rw [HI.out]; rfl, HKw.out.trans HK.out.drew⟩
      · have HN : Hid (∀ z ∈ l.take (k + 1), z ≠ x) := fun z hz => by
          rw [List.take_add_one, HY.out] at hz
          rcases List.mem_append.1 hz with hz | hz
          · exact HB.out z hz
          · simp at hz; subst hz; exact fun e => hxy e.symm
        by_cases hs : x.name = y.name
        · have d2 : (x.arity == y.arity) = false := by
            simp only [beq_eq_false_iff_ne]
            exact fun e => hxy (by cases x; cases y; simp at hs e; simp [hs, e])
          rw [← hs] at p0
          clear hxy hs
          go_upto_region 4 with fail
          refine wp_region_tx (fun W' => W'.cell? ⟨w.heap.size, 0, none⟩ = some (.string x.name) ∧ W'.cell? ⟨w.heap.size, 1, none⟩ = some (.int .i64 x.arity) ∧ W'.cell? ⟨b, off + k * 2, none⟩ = some (.string x.name) ∧ W'.cell? ⟨b, off + k * 2 + 1, none⟩ = some (.int .i64 y.arity)) [(0, true), (1, true), (2, true), (3, true), (4, true), (5, false)] (by kernel_rfl) (by kernel_rfl) ⟨x0, x1, p0, p1⟩ (fun hHeld => ?_)
          (repeat (first | (refine wpTx_take (v := ?_) rfl (by assumption) ?_ (by rfl) ?_; rotate_left; (focus (intro w' hSw; (try dsimp only at hSw); go_simp; (try with_reducible rfl); done)); simp only [Act.put, List.setIfInBounds_toArray, List.set_cons_zero, List.set_cons_succ]) | (refine wpTx_skip rfl (by assumption) (by rfl) ?_; simp only [Act.put, List.setIfInBounds_toArray, List.set_cons_zero, List.set_cons_succ])))
          refine wpTx_last rfl (fun K hK => ?_)
          go_simp
          refine hK.out _ _ (NoPanic.normal ?_); clear hK K; (try simp only [Act.put, List.setIfInBounds_toArray, List.set_cons_zero, List.set_cons_succ])
          clear x0 x1 p0 p1
          go_wp2_with fail
          go_roundw
          case rel => exact ⟨k + 1, by omega, by go_num, HN.out, HK.out.drew⟩
          case measure => simp [intOf]; omega
        · have d0 : (x.name.toList == y.name.toList) = false := by rw [str_eqA]; simpa using hs
          have d1 : ¬ x.name.toList = y.name.toList := by simpa using d0
          clear hxy hs
          go_upto_region 4 with fail
          refine wp_region_tx (fun W' => W'.cell? ⟨w.heap.size, 0, none⟩ = some (.string x.name) ∧ W'.cell? ⟨w.heap.size, 1, none⟩ = some (.int .i64 x.arity) ∧ W'.cell? ⟨b, off + k * 2, none⟩ = some (.string y.name) ∧ W'.cell? ⟨b, off + k * 2 + 1, none⟩ = some (.int .i64 y.arity)) [(0, true), (1, true), (2, true), (3, true), (4, true), (5, false)] (by kernel_rfl) (by kernel_rfl) ⟨x0, x1, p0, p1⟩ (fun hHeld => ?_)
          (repeat (first | (refine wpTx_take (v := ?_) rfl (by assumption) ?_ (by rfl) ?_; rotate_left; (focus (intro w' hSw; (try dsimp only at hSw); go_simp; (try with_reducible rfl); done)); simp only [Act.put, List.setIfInBounds_toArray, List.set_cons_zero, List.set_cons_succ]) | (refine wpTx_skip rfl (by assumption) (by rfl) ?_; simp only [Act.put, List.setIfInBounds_toArray, List.set_cons_zero, List.set_cons_succ])))
          refine wpTx_last rfl (fun K hK => ?_)
          go_simp
          refine hK.out _ _ (NoPanic.normal ?_); clear hK K; (try simp only [Act.put, List.setIfInBounds_toArray, List.set_cons_zero, List.set_cons_succ])
          clear x0 x1 p0 p1
          go_wp2_with fail
          go_roundw
          case rel => exact ⟨k + 1, by omega, by go_num, HN.out, HK.out.drew⟩
          case measure => simp [intOf]; omega
    · obtain rfl : n = k := by omega
      have HI : Hid ((idxS l x) = -1) := by
        refine idxS_no fun hm => ?_
        have h1 := HB.out
        rw [List.take_of_length_le (by rw [HL.out]; omega)] at h1
        exact h1 x hm rfl
      clear hlt hk hkeep
      go_wp2_with fail
      go_ret
      exact ⟨by rw [HI.out]; rfl, HKw.out.trans HK.out⟩


set_option maxRecDepth 100000 in
set_option maxHeartbeats 3200000 in
theorem indexStr_any {w0 w : World} {ab nl : Nat} {L : List Nat} {S : AS} (hA : As w0 w ab L nl S) (x : ByteArray) (hn : S.o.atoms.length ≤ 65000) :
    Calls Tryz.prog 114 #[.pointer (some ⟨ab, 0, none⟩), .string x] w fun e w' => e = .returned (.int .i64 (idxA S.o.atoms x : Nat)) ∧ ∃ L', As w0 w' ab L' nl { S with o := { S.o with atoms := idxL S.o.atoms x } } ∧ ASt w L w' L' := by
  have HAs := Lib.hid hA
  obtain ⟨vb, AA, FA, PA, CA, UA, BA, ca, cf, cp, cc, cu, cb, hm, hL, hlt⟩ := hA
  have HL := Lib.hid hL
  have HLt := Lib.hid hlt
  have HM := Lib.hid hm
  have HN := Lib.hid hn
  have K0 : Keeps w w [] := Keeps.refl w []
  have HM0 := Lib.hid (hm.keep0 K0)
  have q0 := HM0.out.blk.cell 0
  have HK0 := Lib.hid K0
  have HC := Lib.hid (indexSA_any x AA _ ca S.o.atoms w rfl (by omega) (Rd.of_own HM0.out.atoms))
  clear hm hL hlt hn K0
  obtain ⟨n, hnl⟩ : ∃ n, S.o.atoms.length = n := ⟨_, rfl⟩
  have HNl := Lib.hid hnl
  rw [hnl] at HC
  simp only [List.getElem?_toArray, List.getElem?_cons_zero, hnl] at q0
  clear hnl
  go_enter Tryz.func114, Tryz.ntmps114
  go_wp2_with fail
  refine HC.out.mono ?_
  rintro e w1 ⟨rfl, k1⟩
  have HM1 := Lib.hid (HM0.out.keep0 k1)
  have HK1 := Lib.hid (HK0.out.trans k1)
  have q1 := HM1.out.blk.cell 0
  have f1 := HM1.out.blk.frozen 0
  simp only [List.getElem?_toArray, List.getElem?_cons_zero, HNl.out] at q1
  clear k1 HC
  rcases idxS_num S.o.atoms x with ⟨h0, h1, h2⟩ | ⟨h0, h1, h2⟩
  · have HE1 := Lib.hid h1
    have HE2 := Lib.hid h2
    clear h1 h2
    generalize idxS S.o.atoms x = q at *
    go_wp2_with fail
    go_ret
    rw [HE1.out, HE2.out]
    exact ⟨rfl, L, HAs.out.keep0 HK1.out, ASt.of_keeps HK1.out L⟩
  · have HE1 := Lib.hid h1
    have HE2 := Lib.hid h2
    clear h1 h2
    rw [h0]
    clear h0
    have HO1 : Hid (w1.ownsRow w0.heap.size 9 1 (.slice AA n ca) n (S.o.atoms.flatMap strE)) := Lib.hid (by have := HM1.out.atoms; rwa [HNl.out] at this)
    go_wp2_with (at_builtin; have K5 := (Keeps.refl w1 []).alloc (.cells #[.string x] 9); refine wpList_app _ el_atomA (by rfl) (.tmp 20) (.tmp 22) (by rfl) w0.heap.size AA n ca (S.o.atoms.flatMap strE) (by rfl) (own_keep0 HO1.out K5) (some ⟨w1.heap.size, 0, none⟩) 1 1 (strE x) (by rfl) (Rd.one w1 _ (strE x)) rfl (by simp) (by simp [strE, Value.oneCell']) (by have := HN.out; have := HNl.out; omega) (Nat.le_trans HM1.out.bel.size K5.size) ?_; intro A' c' w2 hown hgrow hat; have HG := Lib.hid hgrow; have HAp := Lib.hid (app_factsA K5 hown hgrow hat); have hB2 := HM1.out.blk.grownA K5 hgrow (own_outA HM1.out.atoms HM1.out.blk (by decide)); have q2 := hB2.cell 0; have f2 := hB2.frozen 0; clear hown hgrow hat; clear K5 hB2 HG)
    go_ret
    obtain ⟨a1, a2, a3⟩ := HAp.out
    have hlen : (S.o.atoms ++ [x]).length = n + 1 := by rw [List.length_append, HNl.out]; rfl
    have hz1 := HK1.out.size
    obtain ⟨L', g1, g2⟩ := HM1.out.atoms_pack HL.out (fun b hb => ⟨(HLt.out b hb).1, Nat.lt_of_lt_of_le (HLt.out b hb).2 hz1⟩) a2 (A' := A') (c' := c') (l' := S.o.atoms ++ [x]) (by rw [hlen, List.flatMap_append]; simpa using a1) a3
    rw [hlen] at g1 g2
    rw [HE1.out, HE2.out, HNl.out]
    exact ⟨rfl, L', g1, (ASt.of_keeps HK1.out L).trans g2⟩

set_option maxRecDepth 100000 in
set_option maxHeartbeats 3200000 in
theorem indexFun_any {w0 w : World} {ab nl : Nat} {L : List Nat} {S : AS} (hA : As w0 w ab L nl S) (x : LFun) (hn : S.o.funs.length ≤ 65000) :
    Calls Tryz.prog 115 #[.pointer (some ⟨ab, 1, none⟩), .agg #[.string x.name, .int .i64 x.arity]] w fun e w' => e = .returned (.int .i64 (idxA S.o.funs x : Nat)) ∧ ∃ L', As w0 w' ab L' nl { S with o := { S.o with funs := idxL S.o.funs x } } ∧ ASt w L w' L' := by
  have HAs := Lib.hid hA
  obtain ⟨vb, AA, FA, PA, CA, UA, BA, ca, cf, cp, cc, cu, cb, hm, hL, hlt⟩ := hA
  have HL := Lib.hid hL
  have HLt := Lib.hid hlt
  have HM := Lib.hid hm
  have HN := Lib.hid hn
  have K0 : Keeps w (w.alloc (.cells #[.string x.name, .int .i64 x.arity] 77)) [] := (Keeps.refl w []).alloc _
  have HBx : Hid (Blk (w.alloc (.cells #[.string x.name, .int .i64 x.arity] 77)) w.heap.size 77 #[.string x.name, .int .i64 x.arity]) := Blk.new _ _ _
  have HM0 := Lib.hid (hm.keep0 K0)
  have q0 := HM0.out.blk.cell 1
  have HK0 := Lib.hid K0
  have HC := Lib.hid (indexFA_any x FA _ cf S.o.funs (w.alloc (.cells #[.string x.name, .int .i64 x.arity] 77)).drew rfl (by omega) (Rd.of_own HM0.out.funs))
  clear hm hL hlt hn K0
  obtain ⟨n, hnl⟩ : ∃ n, S.o.funs.length = n := ⟨_, rfl⟩
  have HNl := Lib.hid hnl
  rw [hnl] at HC
  simp only [List.getElem?_toArray, List.getElem?_cons_zero, List.getElem?_cons_succ, hnl] at q0
  clear hnl
  have HW0 : Hid (∀ W, Keeps (w.alloc (.cells #[.string x.name, .int .i64 x.arity] 77)) W [] → (W.cell? ⟨ab, 1, none⟩ = some (.slice FA n cf) ∧ W.cell? ⟨w.heap.size, 0, none⟩ = some (.string x.name) ∧ W.cell? ⟨w.heap.size, 1, none⟩ = some (.int .i64 x.arity))) := fun W kk => ⟨by have b := HM0.out.blk.keep kk (by simp); have := b.cell 1; simp only [List.getElem?_toArray, List.getElem?_cons_zero, List.getElem?_cons_succ, HNl.out] at this; exact this, (HBx.out.keep kk (by simp)).cell 0, (HBx.out.keep kk (by simp)).cell 1⟩
  clear q0
  go_enter Tryz.func115, Tryz.ntmps115
  go_upto_region 1 with fail
  refine wp_region_tx (fun W' => (W'.cell? ⟨ab, 1, none⟩ = some (.slice FA n cf) ∧ W'.cell? ⟨w.heap.size, 0, none⟩ = some (.string x.name) ∧ W'.cell? ⟨w.heap.size, 1, none⟩ = some (.int .i64 x.arity))) [(0, true), (1, true), (2, true), (3, true), (4, false), (5, false)] (by kernel_rfl) (by kernel_rfl) (HW0.out _ (Keeps.refl _ _).drew) (fun hHeld => ?_)
  (repeat (first | (refine wpTx_take (v := ?_) rfl (by assumption) ?_ (by rfl) ?_; rotate_left; (focus (intro w' hSw; (try dsimp only at hSw); go_simp; (try with_reducible rfl); done)); simp only [Act.put, List.setIfInBounds_toArray, List.set_cons_zero, List.set_cons_succ]) | (refine wpTx_skip rfl (by assumption) (by rfl) ?_; simp only [Act.put, List.setIfInBounds_toArray, List.set_cons_zero, List.set_cons_succ])))
  refine wpTx_go rfl (fun K hK => ?_)
  go_simp
  refine HC.out.mono ?_
  rintro e w1 ⟨rfl, k1'⟩
  have k1 := (Keeps.refl (w.alloc (.cells #[.string x.name, .int .i64 x.arity] 77)) []).drew.trans k1'
  clear k1'
  have HWk := Lib.hid (HW0.out _ k1)
  refine hK.out _ _ ?_ ?_
  · exact HWk.out
  (clear hHeld; intro hHeld; clear hK K; (try simp only [Act.put, List.setIfInBounds_toArray, List.set_cons_zero, List.set_cons_succ]))
  refine wpTx_last rfl (fun K hK => ?_)
  go_simp
  refine hK.out _ _ (NoPanic.normal ?_); clear hK K; (try simp only [Act.put, List.setIfInBounds_toArray, List.set_cons_zero, List.set_cons_succ])
  clear hHeld HWk HW0
  have HM1 := Lib.hid (HM0.out.keep0 k1)
  have HK1 := Lib.hid (HK0.out.trans k1)
  have x0 := (HBx.out.keep k1 (by simp)).cell 0
  have x1 := (HBx.out.keep k1 (by simp)).cell 1
  have HK01 := Lib.hid k1
  have q1 := HM1.out.blk.cell 1
  have f1 := HM1.out.blk.frozen 1
  simp only [List.getElem?_toArray, List.getElem?_cons_zero, List.getElem?_cons_succ, HNl.out] at q1
  clear k1 HC
  rcases idxS_num S.o.funs x with ⟨h0, h1, h2⟩ | ⟨h0, h1, h2⟩
  · have HE1 := Lib.hid h1
    have HE2 := Lib.hid h2
    clear h1 h2
    generalize idxS S.o.funs x = q at *
    go_wp2_with fail
    go_ret
    rw [HE1.out, HE2.out]
    exact ⟨rfl, L, HAs.out.keep0 HK1.out, ASt.of_keeps HK1.out L⟩
  · have HE1 := Lib.hid h1
    have HE2 := Lib.hid h2
    clear h1 h2
    rw [h0]
    clear h0
    have HO1 : Hid (w1.ownsRow w0.heap.size 77 2 (.slice FA n cf) n (S.o.funs.flatMap funE)) := Lib.hid (by have := HM1.out.funs; rwa [HNl.out] at this)
    have HW : Hid (∀ W, Keeps w1 W [] → ((W.cell? ⟨ab, 1, none⟩ = some (.slice FA n cf) ∧ W.cell? ⟨w.heap.size, 0, none⟩ = some (.string x.name) ∧ W.cell? ⟨w.heap.size, 1, none⟩ = some (.int .i64 x.arity)) ∧ W.frozen? ⟨ab, 1, none⟩ = false)) := fun W kk => ⟨⟨by have b := HM1.out.blk.keep kk (by simp); have := b.cell 1; simp only [List.getElem?_toArray, List.getElem?_cons_zero, List.getElem?_cons_succ, HNl.out] at this; exact this, (HBx.out.keep (HK01.out.trans kk) (by simp)).cell 0, (HBx.out.keep (HK01.out.trans kk) (by simp)).cell 1⟩, (HM1.out.blk.keep kk (by simp)).frozen 1⟩
    clear x0 x1 f1
    go_upto_region 4 with fail
    clear q1
    refine wp_region_tx (fun W' => ((W'.cell? ⟨ab, 1, none⟩ = some (.slice FA n cf) ∧ W'.cell? ⟨w.heap.size, 0, none⟩ = some (.string x.name) ∧ W'.cell? ⟨w.heap.size, 1, none⟩ = some (.int .i64 x.arity)) ∧ W'.frozen? ⟨ab, 1, none⟩ = false)) [(0, true), (1, true), (2, true), (3, true), (4, true), (5, false), (6, false), (7, true), (8, false)] (by kernel_rfl) (by kernel_rfl) (HW.out _ (Keeps.refl _ _).drew) (fun hHeld => ?_)
    (repeat (first | (refine wpTx_take (v := ?_) rfl (by assumption) ?_ (by rfl) ?_; rotate_left; (focus (intro w' hSw; (try dsimp only at hSw); go_simp; (try with_reducible rfl); done)); simp only [Act.put, List.setIfInBounds_toArray, List.set_cons_zero, List.set_cons_succ]) | (refine wpTx_skip rfl (by assumption) (by rfl) ?_; simp only [Act.put, List.setIfInBounds_toArray, List.set_cons_zero, List.set_cons_succ])))
    refine wpTx_go rfl (fun K hK => ?_)
    go_simp
    refine hK.out _ _ ?_ ?_
    · exact HW.out _ ((Keeps.refl _ _).drew.alloc _)
    (clear hHeld; intro hHeld; clear hK K; (try simp only [Act.put, List.setIfInBounds_toArray, List.set_cons_zero, List.set_cons_succ]))
    refine wpTx_go rfl (fun K hK => ?_)
    have K5 : Keeps w1 (w1.drew.alloc (.cells #[.string x.name, .int .i64 x.arity] 77)) [] := (Keeps.refl w1 []).drew.alloc _
    refine step_app _ el_funA (by rfl) _ _ (by rfl) w0.heap.size FA n cf (S.o.funs.flatMap funE) (by rfl) (own_keep0 HO1.out K5) (some ⟨w1.heap.size, 0, none⟩) 1 1 (funE x) (by rfl) (Rd.one w1.drew _ (funE x)) rfl (by simp) (by simp [funE, Value.oneCell']) (by have := HN.out; have := HNl.out; omega) (Nat.le_trans HM1.out.bel.size K5.size) ?_
    intro A' c' w2 hown hgrow hat
    have HG := Lib.hid hgrow
    have HAp := Lib.hid (app_factsA K5 hown hgrow hat)
    have hB2 := HM1.out.blk.grownA K5 hgrow (own_outA HM1.out.funs HM1.out.blk (by decide))
    have q2 := hB2.cell 1
    have f2 := hB2.frozen 1
    clear hown hgrow hat
    have HB2 : Hid (w2.cell? ⟨ab, 1, none⟩ = some (.slice FA S.o.funs.length cf) ∧ w2.frozen? ⟨ab, 1, none⟩ = false) := ⟨q2, f2⟩
    have HX2 : Hid (w2.cell? ⟨w.heap.size, 0, none⟩ = some (.string x.name) ∧ w2.cell? ⟨w.heap.size, 1, none⟩ = some (.int .i64 x.arity)) := by
      have hb1 := (HBx.out.keep HK01.out (by simp)).grownA K5 HG.out (fun hm => by have := (own_ltA HM.out.funs _ hm).2; omega)
      exact ⟨hb1.cell 0, hb1.cell 1⟩
    clear K5 hB2 q2 f2
    refine hK.out _ _ ?_ ?_
    · exact ⟨⟨by rw [← HNl.out]; exact HB2.out.1, HX2.out.1, HX2.out.2⟩, HB2.out.2⟩
    (clear hHeld; intro hHeld; clear hK K; (try simp only [Act.put, List.setIfInBounds_toArray, List.set_cons_zero, List.set_cons_succ]))
    (repeat (first | (refine wpTx_take (v := ?_) rfl (by assumption) ?_ (by rfl) ?_; rotate_left; (focus (intro w' hSw; (try dsimp only at hSw); go_simp; (try with_reducible rfl); done)); simp only [Act.put, List.setIfInBounds_toArray, List.set_cons_zero, List.set_cons_succ]) | (refine wpTx_skip rfl (by assumption) (by rfl) ?_; simp only [Act.put, List.setIfInBounds_toArray, List.set_cons_zero, List.set_cons_succ])))
    refine wpTx_last rfl (fun K hK => ?_)
    go_simp
    refine hK.out _ _ (NoPanic.normal ?_); clear hK K; (try simp only [Act.put, List.setIfInBounds_toArray, List.set_cons_zero, List.set_cons_succ])
    clear hHeld
    go_wp2_with fail
    go_ret
    obtain ⟨a1, a2, a3⟩ := HAp.out
    have hlen : (S.o.funs ++ [x]).length = n + 1 := by rw [List.length_append, HNl.out]; rfl
    have hz1 := HK1.out.size
    obtain ⟨L', g1, g2⟩ := HM1.out.funs_pack HL.out (fun b hb => ⟨(HLt.out b hb).1, Nat.lt_of_lt_of_le (HLt.out b hb).2 hz1⟩) a2 (A' := A') (c' := c') (l' := S.o.funs ++ [x]) (by rw [hlen, List.flatMap_append]; simpa using a1) a3
    rw [hlen] at g1 g2
    rw [HE1.out, HE2.out, HNl.out]
    exact ⟨rfl, L', g1, (ASt.of_keeps HK1.out L).trans g2⟩
end Go.Proofs.YtpcihhdalofdiaaGreatDoor

/- Whether a word fits; a predicate's number; what a word says: the program's. Printed by gen_aspred.py. -/
namespace Go.Proofs.YtpcihhdalofdiaaGreatDoor
open Go.RowKit Go.Maps
attribute [local irreducible] numT kindsOf nameOf checkE

theorem wdB_of (s : ByteArray) : wdB s.data.toList = s := by cases s; simp [wdB]
theorem fits_3 (op : Int) (w : Txt) : fitsP op 3 w = nameOk (wdB w) := rfl
theorem fits_4 (op : Int) (w : Txt) : fitsP op 4 w = (slashP w 1).isSome := rfl
theorem fits_7 (op : Int) (w : Txt) : fitsP op 7 w = (slashP w 0).isSome := rfl
theorem fits_8 (op : Int) (w : Txt) : fitsP op 8 w = (decide (0 ≤ labelP w) || (op == 26 && w == [45])) := rfl
theorem fits_o (op : Int) {k : Nat} (w : Txt) (h : k ≠ 3 ∧ k ≠ 4 ∧ k ≠ 7 ∧ k ≠ 8) : fitsP op k w = decide (0 ≤ plainP k w) := by
  unfold fitsP
  rw [if_neg h.1, if_neg h.2.1, if_neg h.2.2.1, if_neg h.2.2.2]
theorem opnd_3 (o : LObj) (w : Txt) : operandP o 3 w = ({ o with atoms := idxL o.atoms (wdB w) }, (idxA o.atoms (wdB w) : Int)) := rfl
theorem opnd_4 (o : LObj) (w : Txt) (h : (slashP w 1).isSome = true) : operandP o 4 w = ({ o with funs := idxL o.funs (funV w) }, (idxA o.funs (funV w) : Int)) := by
  cases hs : slashP w 1 with
  | none => rw [hs] at h; cases h
  | some f =>
    obtain rfl := slash_funV hs
    unfold operandP
    rw [if_neg (by decide), if_pos rfl, hs]
theorem opnd_7 (o : LObj) (w : Txt) (h : (slashP w 0).isSome = true) : operandP o 7 w = ((predP o (funV w)).1, ((predP o (funV w)).2 : Int)) := by
  cases hs : slashP w 0 with
  | none => rw [hs] at h; cases h
  | some f =>
    obtain rfl := slash_funV hs
    unfold operandP
    rw [if_neg (by decide), if_neg (by decide), if_pos rfl, hs]
theorem opnd_8 (o : LObj) (w : Txt) : operandP o 8 w = (o, if w = [45] then 65535 else labelP w) := rfl
theorem opnd_o (o : LObj) {k : Nat} (w : Txt) (h : k ≠ 3 ∧ k ≠ 4 ∧ k ≠ 7 ∧ k ≠ 8) : operandP o k w = (o, plainP k w) := by
  unfold operandP
  rw [if_neg h.1, if_neg h.2.1, if_neg h.2.2.1, if_neg h.2.2.2]
attribute [local irreducible] fitsP operandP plainP labelP slashP
theorem dash_is (s : ByteArray) : (s.toList == [45]) = (s.data.toList == [45]) := by rw [ByteArray.toList_eq]
set_option maxRecDepth 100000 in
set_option maxHeartbeats 3200000 in
theorem fits9_any (op : Int) (k : Nat) (hk : k ≤ 100) (s : ByteArray) (hl : s.size ≤ 4294967000) (w : World) (h : St w) :
    Calls Tryz.prog 81 #[.int .i64 op, .int .i64 k, .string s] w fun e w' => e = .returned (.bool (fitsP op k s.data.toList)) ∧ Keeps w w' [] := by
  obtain ⟨K, hK⟩ : ∃ K : Int, (k : Int) = K := ⟨_, rfl⟩
  by_cases h3 : k = 3
  · subst h3
    have HV : Hid (fitsP op 3 s.data.toList = nameOk s) := Lib.hid (by rw [fits_3, wdB_of])
    have d3 : (K == 3) = true := by rw [← hK]; rfl
    have HN := Lib.hid (name_any s w)
    rw [hK]
    clear hK
    go_enter Tryz.func81, Tryz.ntmps81
    go_wp2_with fail
    refine HN.out.mono ?_
    rintro e w1 ⟨rfl, k1⟩
    go_wp2_with fail
    go_ret
    exact ⟨by rw [HV.out]; rfl, k1⟩
  have d3 : (K == 3) = false := by rw [beq_eq_false_iff_ne]; omega
  by_cases h4 : k = 4
  · subst h4
    have HV := Lib.hid (fits_4 op s.data.toList)
    have d4 : (K == 4) = true := by rw [← hK]; rfl
    have HN := Lib.hid (fun9_any s 1 (by omega) w h)
    obtain ⟨b, hb⟩ : ∃ b, (slashP s.data.toList 1).isSome = b := ⟨_, rfl⟩
    rw [hb] at HN HV
    rw [hK]
    clear hK hb h3 hk h
    go_enter Tryz.func81, Tryz.ntmps81
    go_wp2_with fail
    refine HN.out.mono ?_
    rintro e w1 ⟨rfl, k1⟩
    have HK := Lib.hid (k1.alloc (.cells #[.string (funV s.data.toList).name, .int .i64 (funV s.data.toList).arity] 77))
    clear k1
    go_wp2_with fail
    go_ret
    exact ⟨by rw [HV.out]; rfl, HK.out⟩
  have d4 : (K == 4) = false := by rw [beq_eq_false_iff_ne]; omega
  by_cases h7 : k = 7
  · subst h7
    have HV := Lib.hid (fits_7 op s.data.toList)
    have d7 : (K == 7) = true := by rw [← hK]; rfl
    have HN := Lib.hid (fun9_any s 0 (by omega) w h)
    obtain ⟨b, hb⟩ : ∃ b, (slashP s.data.toList 0).isSome = b := ⟨_, rfl⟩
    rw [hb] at HN HV
    rw [hK]
    clear hK hb h3 hk h
    go_enter Tryz.func81, Tryz.ntmps81
    go_wp2_with fail
    refine HN.out.mono ?_
    rintro e w1 ⟨rfl, k1⟩
    have HK := Lib.hid (k1.alloc (.cells #[.string (funV s.data.toList).name, .int .i64 (funV s.data.toList).arity] 77))
    clear k1
    go_wp2_with fail
    go_ret
    exact ⟨by rw [HV.out]; rfl, HK.out⟩
  have d7 : (K == 7) = false := by rw [beq_eq_false_iff_ne]; omega
  by_cases h8 : k = 8
  · subst h8
    have HV := Lib.hid (fits_8 op s.data.toList)
    have d8 : (K == 8) = true := by rw [← hK]; rfl
    have HN := Lib.hid (label9_any s (by omega) w h)
    have hdash := dash_is s
    obtain ⟨b, hb⟩ : ∃ b, (s.data.toList == [45]) = b := ⟨_, rfl⟩
    rw [hb] at HV hdash
    generalize labelP s.data.toList = v at *
    rw [hK]
    clear hK hb h3 h4 h7 hk h
    by_cases hv : 0 ≤ v
    · have HW : Hid (fitsP op 8 s.data.toList = true) := Lib.hid (by rw [HV.out, decide_eq_true hv]; rfl)
      go_enter Tryz.func81, Tryz.ntmps81
      go_wp2_with fail
      refine HN.out.mono ?_
      rintro e w1 ⟨rfl, k1⟩
      go_wp2_with fail
      go_ret
      exact ⟨by rw [HW.out]; rfl, k1⟩
    · by_cases ho : op = 26
      · have HW : Hid (fitsP op 8 s.data.toList = (decide (0 ≤ v) || b)) := Lib.hid (by rw [HV.out, ho]; simp)
        have o1 : (op == 26) = true := by simpa using ho
        clear ho
        go_enter Tryz.func81, Tryz.ntmps81
        go_wp2_with fail
        refine HN.out.mono ?_
        rintro e w1 ⟨rfl, k1⟩
        go_wp2_with fail
        go_ret
        exact ⟨by rw [HW.out]; rfl, k1⟩
      · have o1 : (op == 26) = false := by simpa using ho
        have HW : Hid (fitsP op 8 s.data.toList = decide (0 ≤ v)) := Lib.hid (by rw [HV.out, o1]; simp)
        clear ho
        go_enter Tryz.func81, Tryz.ntmps81
        go_wp2_with fail
        refine HN.out.mono ?_
        rintro e w1 ⟨rfl, k1⟩
        go_wp2_with fail
        go_ret
        exact ⟨by rw [HW.out]; rfl, k1⟩
  have d8 : (K == 8) = false := by rw [beq_eq_false_iff_ne]; omega
  have HV := Lib.hid (fits_o op s.data.toList ⟨h3, h4, h7, h8⟩)
  have HN := Lib.hid (plain9_any k hk s hl w h)
  rw [hK] at HN ⊢
  generalize plainP k s.data.toList = v at *
  clear hK h3 h4 h7 h8 hk h
  go_enter Tryz.func81, Tryz.ntmps81
  go_wp2_with fail
  refine HN.out.mono ?_
  rintro e w1 ⟨rfl, k1⟩
  go_wp2_with fail
  go_ret
  exact ⟨by rw [HV.out]; rfl, k1⟩
/-- A predicate's number, as the object's look. -/
theorem pred_find (o : LObj) (f : LFun) : (0 ≤ findI (isKey f.name f.arity) o.preds ∧ (predP o f).1 = o ∧ ((predP o f).2 : Int) = findI (isKey f.name f.arity) o.preds) ∨ (findI (isKey f.name f.arity) o.preds = -1 ∧ (predP o f).1 = { o with preds := o.preds ++ [⟨f.name, f.arity, 65535⟩] } ∧ (predP o f).2 = o.preds.length) := by
  rw [findI_idx]
  unfold predP
  have e : (fun p : LPred => decide (p.name = f.name) && decide (p.arity = f.arity)) = isKey f.name f.arity := rfl
  rw [e]
  cases h : o.preds.findIdx? (isKey f.name f.arity) with
  | some k => exact .inl ⟨by simp only; omega, rfl, rfl⟩
  | none => exact .inr ⟨rfl, rfl, rfl⟩
set_option maxRecDepth 100000 in
set_option maxHeartbeats 3200000 in
theorem predA_any {w0 w : World} {ab nl : Nat} {L : List Nat} {S : AS} (hA : As w0 w ab L nl S) (f : LFun) (hf : Fits S.o) (hn : S.o.preds.length ≤ 65000) :
    Calls Tryz.prog 75 #[.pointer (some ⟨ab, 0, none⟩), .agg #[.string f.name, .int .i64 f.arity]] w fun e w' => e = .returned (.int .i64 ((predP S.o f).2 : Nat)) ∧ ∃ L', As w0 w' ab L' nl { S with o := (predP S.o f).1 } ∧ ASt w L w' L' := by
  have HAs := Lib.hid hA
  obtain ⟨vb, AA, FA, PA, CA, UA, BA, ca, cf, cp, cc, cu, cb, hm, hL, hlt⟩ := hA
  have HL := Lib.hid hL
  have HLt := Lib.hid hlt
  have HM := Lib.hid hm
  have HN := Lib.hid hn
  have K0 : Keeps w (w.alloc (.cells #[.string f.name, .int .i64 f.arity] 77)) [] := (Keeps.refl w []).alloc _
  have HBx : Hid (Blk (w.alloc (.cells #[.string f.name, .int .i64 f.arity] 77)) w.heap.size 77 #[.string f.name, .int .i64 f.arity]) := Blk.new _ _ _
  have HM0 := Lib.hid (hm.keep0 K0)
  have HK0 := Lib.hid K0
  have HC := Lib.hid (find_any S.o f.name f.arity AA FA PA CA _ _ _ _ ca cf cp cc (w.alloc (.cells #[.string f.name, .int .i64 f.arity] 77)).drew (HM0.out.ob.keep (Keeps.refl _ _).drew) hf rfl rfl rfl rfl)
  clear hm hL hlt hn K0 hf
  obtain ⟨na, hna⟩ : ∃ n, S.o.atoms.length = n := ⟨_, rfl⟩
  obtain ⟨nf, hnf⟩ : ∃ n, S.o.funs.length = n := ⟨_, rfl⟩
  obtain ⟨n, hnl⟩ : ∃ n, S.o.preds.length = n := ⟨_, rfl⟩
  obtain ⟨nc, hnc⟩ : ∃ n, S.o.code.length = n := ⟨_, rfl⟩
  have HNl := Lib.hid hnl
  rw [hna, hnf, hnl, hnc] at HC
  have HW0 : Hid (∀ W, Keeps (w.alloc (.cells #[.string f.name, .int .i64 f.arity] 77)) W [] → ((W.cell? ⟨ab, 0, none⟩ = some (.slice AA na ca) ∧ W.cell? ⟨ab, 1, none⟩ = some (.slice FA nf cf) ∧ W.cell? ⟨ab, 2, none⟩ = some (.slice PA n cp) ∧ W.cell? ⟨ab, 3, none⟩ = some (.slice CA nc cc)) ∧ W.cell? ⟨w.heap.size, 0, none⟩ = some (.string f.name) ∧ W.cell? ⟨w.heap.size, 1, none⟩ = some (.int .i64 f.arity))) := fun W kk => by
    have b := HM0.out.blk.keep kk (by simp)
    have q0 := b.cell 0
    have q1 := b.cell 1
    have q2 := b.cell 2
    have q3 := b.cell 3
    simp only [List.getElem?_toArray, List.getElem?_cons_zero, List.getElem?_cons_succ, hna, hnf, hnl, hnc] at q0 q1 q2 q3
    exact ⟨⟨q0, q1, q2, q3⟩, (HBx.out.keep kk (by simp)).cell 0, (HBx.out.keep kk (by simp)).cell 1⟩
  clear hnl hna hnf hnc
  go_enter Tryz.func75, Tryz.ntmps75
  go_upto_region 1 with fail
  refine wp_region_tx (fun W' => ((W'.cell? ⟨ab, 0, none⟩ = some (.slice AA na ca) ∧ W'.cell? ⟨ab, 1, none⟩ = some (.slice FA nf cf) ∧ W'.cell? ⟨ab, 2, none⟩ = some (.slice PA n cp) ∧ W'.cell? ⟨ab, 3, none⟩ = some (.slice CA nc cc)) ∧ W'.cell? ⟨w.heap.size, 0, none⟩ = some (.string f.name) ∧ W'.cell? ⟨w.heap.size, 1, none⟩ = some (.int .i64 f.arity))) [(0, true), (1, true), (2, true), (3, true), (4, true), (5, true), (6, true), (7, true), (8, false), (9, false)] (by kernel_rfl) (by kernel_rfl) (HW0.out _ (Keeps.refl _ _).drew) (fun hHeld => ?_)
  (repeat (first | (refine wpTx_take (v := ?_) rfl (by assumption) ?_ (by rfl) ?_; rotate_left; (focus (intro w' hSw; (try dsimp only at hSw); go_simp; (try with_reducible rfl); done)); simp only [Act.put, List.setIfInBounds_toArray, List.set_cons_zero, List.set_cons_succ]) | (refine wpTx_skip rfl (by assumption) (by rfl) ?_; simp only [Act.put, List.setIfInBounds_toArray, List.set_cons_zero, List.set_cons_succ])))
  refine wpTx_go rfl (fun K hK => ?_)
  go_simp
  refine HC.out.mono ?_
  rintro e w1 ⟨rfl, k1'⟩
  have k1 := (Keeps.refl (w.alloc (.cells #[.string f.name, .int .i64 f.arity] 77)) []).drew.trans k1'
  clear k1'
  have HWk := Lib.hid (HW0.out _ k1)
  refine hK.out _ _ ?_ ?_
  · exact HWk.out
  (clear hHeld; intro hHeld; clear hK K; (try simp only [Act.put, List.setIfInBounds_toArray, List.set_cons_zero, List.set_cons_succ]))
  refine wpTx_last rfl (fun K hK => ?_)
  go_simp
  refine hK.out _ _ (NoPanic.normal ?_); clear hK K; (try simp only [Act.put, List.setIfInBounds_toArray, List.set_cons_zero, List.set_cons_succ])
  clear hHeld HWk HW0
  have HM1 := Lib.hid (HM0.out.keep0 k1)
  have HK1 := Lib.hid (HK0.out.trans k1)
  have HK01 := Lib.hid k1
  have q1 := HM1.out.blk.cell 2
  have f1 := HM1.out.blk.frozen 2
  simp only [List.getElem?_toArray, List.getElem?_cons_zero, List.getElem?_cons_succ, HNl.out] at q1
  clear k1 HC
  rcases pred_find S.o f with ⟨h0, h1, h2⟩ | ⟨h0, h1, h2⟩
  · have HE1 := Lib.hid h1
    have HE2 := Lib.hid h2
    clear h1 h2
    generalize findI (isKey f.name f.arity) S.o.preds = q at *
    go_wp2_with fail
    go_ret
    rw [HE1.out, HE2.out]
    exact ⟨rfl, L, HAs.out.keep0 HK1.out, ASt.of_keeps HK1.out L⟩
  · have HE1 := Lib.hid h1
    have HE2 := Lib.hid h2
    clear h1 h2
    rw [h0]
    clear h0
    have HO1 : Hid (w1.ownsRow w0.heap.size 52 3 (.slice PA n cp) n (S.o.preds.flatMap predE)) := Lib.hid (by have := HM1.out.preds; rwa [HNl.out] at this)
    have HW : Hid (∀ W, Keeps w1 W [] → ((W.cell? ⟨ab, 2, none⟩ = some (.slice PA n cp) ∧ W.cell? ⟨w.heap.size, 0, none⟩ = some (.string f.name) ∧ W.cell? ⟨w.heap.size, 1, none⟩ = some (.int .i64 f.arity)) ∧ W.frozen? ⟨ab, 2, none⟩ = false)) := fun W kk => ⟨⟨by have b := HM1.out.blk.keep kk (by simp); have := b.cell 2; simp only [List.getElem?_toArray, List.getElem?_cons_zero, List.getElem?_cons_succ, HNl.out] at this; exact this, (HBx.out.keep (HK01.out.trans kk) (by simp)).cell 0, (HBx.out.keep (HK01.out.trans kk) (by simp)).cell 1⟩, (HM1.out.blk.keep kk (by simp)).frozen 2⟩
    clear f1
    go_upto_region 4 with fail
    clear q1
    refine wp_region_tx (fun W' => ((W'.cell? ⟨ab, 2, none⟩ = some (.slice PA n cp) ∧ W'.cell? ⟨w.heap.size, 0, none⟩ = some (.string f.name) ∧ W'.cell? ⟨w.heap.size, 1, none⟩ = some (.int .i64 f.arity)) ∧ W'.frozen? ⟨ab, 2, none⟩ = false)) [(0, true), (1, true), (2, true), (3, true), (4, true), (5, true), (6, true), (7, true), (8, true), (9, true), (10, true), (11, false), (12, false), (13, true), (14, true), (15, true), (16, false)] (by kernel_rfl) (by kernel_rfl) (HW.out _ (Keeps.refl _ _).drew) (fun hHeld => ?_)
    (repeat (first | (refine wpTx_take (v := ?_) rfl (by assumption) ?_ (by rfl) ?_; rotate_left; (focus (intro w' hSw; (try dsimp only at hSw); go_simp; (try with_reducible rfl); done)); simp only [Act.put, List.setIfInBounds_toArray, List.set_cons_zero, List.set_cons_succ]) | (refine wpTx_skip rfl (by assumption) (by rfl) ?_; simp only [Act.put, List.setIfInBounds_toArray, List.set_cons_zero, List.set_cons_succ])))
    refine wpTx_go rfl (fun K hK => ?_)
    go_simp
    refine hK.out _ _ ?_ ?_
    · exact HW.out _ ((Keeps.refl _ _).drew.alloc _)
    (clear hHeld; intro hHeld; clear hK K; (try simp only [Act.put, List.setIfInBounds_toArray, List.set_cons_zero, List.set_cons_succ]))
    refine wpTx_go rfl (fun K hK => ?_)
    have K5 : Keeps w1 (w1.drew.alloc (.cells #[.string f.name, .int .i64 f.arity, .int .i64 65535] 52)) [] := (Keeps.refl w1 []).drew.alloc _
    refine step_app _ el_predA (by rfl) _ _ (by rfl) w0.heap.size PA n cp (S.o.preds.flatMap predE) (by rfl) (own_keep0 HO1.out K5) (some ⟨w1.heap.size, 0, none⟩) 1 1 (predE ⟨f.name, f.arity, 65535⟩) (by rfl) (Rd.one w1.drew _ (predE ⟨f.name, f.arity, 65535⟩)) rfl (by simp) (by simp [predE, Value.oneCell']) (by have := HN.out; have := HNl.out; omega) (Nat.le_trans HM1.out.bel.size K5.size) ?_
    intro A' c' w2 hown hgrow hat
    have HAp := Lib.hid (app_factsA K5 hown hgrow hat)
    have hB2 := HM1.out.blk.grownA K5 hgrow (own_outA HM1.out.preds HM1.out.blk (by decide))
    have hb1 := (HBx.out.keep HK01.out (by simp)).grownA K5 hgrow (fun hm => by have := (own_ltA HM.out.preds _ hm).2; omega)
    have HB2 : Hid (w2.cell? ⟨ab, 2, none⟩ = some (.slice PA S.o.preds.length cp) ∧ w2.frozen? ⟨ab, 2, none⟩ = false) := ⟨hB2.cell 2, hB2.frozen 2⟩
    have HX2 : Hid (w2.cell? ⟨w.heap.size, 0, none⟩ = some (.string f.name) ∧ w2.cell? ⟨w.heap.size, 1, none⟩ = some (.int .i64 f.arity)) := ⟨hb1.cell 0, hb1.cell 1⟩
    clear hown hgrow hat K5 hB2 hb1
    refine hK.out _ _ ?_ ?_
    · exact ⟨⟨by rw [← HNl.out]; exact HB2.out.1, HX2.out.1, HX2.out.2⟩, HB2.out.2⟩
    (clear hHeld; intro hHeld; clear hK K; (try simp only [Act.put, List.setIfInBounds_toArray, List.set_cons_zero, List.set_cons_succ]))
    (repeat (first | (refine wpTx_take (v := ?_) rfl (by assumption) ?_ (by rfl) ?_; rotate_left; (focus (intro w' hSw; (try dsimp only at hSw); go_simp; (try with_reducible rfl); done)); simp only [Act.put, List.setIfInBounds_toArray, List.set_cons_zero, List.set_cons_succ]) | (refine wpTx_skip rfl (by assumption) (by rfl) ?_; simp only [Act.put, List.setIfInBounds_toArray, List.set_cons_zero, List.set_cons_succ])))
    refine wpTx_last rfl (fun K hK => ?_)
    go_simp
    refine hK.out _ _ (NoPanic.normal ?_); clear hK K; (try simp only [Act.put, List.setIfInBounds_toArray, List.set_cons_zero, List.set_cons_succ])
    clear hHeld
    go_wp2_with fail
    go_ret
    obtain ⟨a1, a2, a3⟩ := HAp.out
    have hlen : (S.o.preds ++ [(⟨f.name, f.arity, 65535⟩ : LPred)]).length = n + 1 := by rw [List.length_append, HNl.out]; rfl
    have hz1 := HK1.out.size
    obtain ⟨L', g1, g2⟩ := HM1.out.preds_pack HL.out (fun b hb => ⟨(HLt.out b hb).1, Nat.lt_of_lt_of_le (HLt.out b hb).2 hz1⟩) a2 (A' := A') (c' := c') (l' := S.o.preds ++ [⟨f.name, f.arity, 65535⟩]) (by rw [hlen, List.flatMap_append]; simpa using a1) a3
    rw [hlen] at g1 g2
    rw [HE1.out, HE2.out, HNl.out]
    exact ⟨rfl, L', g1, (ASt.of_keeps HK1.out L).trans g2⟩
/-- What an operand leaves: its number, the object behind it. -/
def OpDone (w0 w : World) (ab nl : Nat) (L : List Nat) (S : AS) (r : LObj × Int) (e : Ending) (w' : World) : Prop := e = .returned (.int .i64 r.2) ∧ ∃ L', As w0 w' ab L' nl { S with o := r.1 } ∧ ASt w L w' L'
set_option maxRecDepth 100000 in
set_option maxHeartbeats 3200000 in
theorem operandA_any {w0 w : World} {ab nl : Nat} {L : List Nat} {S : AS} (hA : As w0 w ab L nl S) (op : Int) (k : Nat) (hk : k ≤ 100) (s : ByteArray) (hl : s.size ≤ 4294967000) (hf : Fits S.o) (hn : S.o.atoms.length ≤ 65000 ∧ S.o.funs.length ≤ 65000 ∧ S.o.preds.length ≤ 65000) (hfit : fitsP op k s.data.toList = true) :
    Calls Tryz.prog 83 #[.pointer (some ⟨ab, 0, none⟩), .int .i64 k, .string s] w (OpDone w0 w ab nl L S (operandP S.o k s.data.toList)) := by
  have HAs := Lib.hid hA
  have h := hA.st_
  obtain ⟨K, hK⟩ : ∃ K : Int, (k : Int) = K := ⟨_, rfl⟩
  by_cases h3 : k = 3
  · subst h3
    have d3 : (K == 3) = true := by rw [← hK]; rfl
    have HN := Lib.hid (indexStr_any hA s hn.1)
    rw [opnd_3, wdB_of, hK]
    clear hK hA hf hn hfit h
    go_enter Tryz.func83, Tryz.ntmps83
    go_wp2_with fail
    refine HN.out.mono ?_
    rintro e w1 ⟨rfl, hp⟩
    have HP := Lib.hid hp
    clear hp
    go_wp2_with fail
    go_ret
    exact ⟨rfl, HP.out⟩
  have d3 : (K == 3) = false := by rw [beq_eq_false_iff_ne]; omega
  by_cases h4 : k = 4
  · subst h4
    have d4 : (K == 4) = true := by rw [← hK]; rfl
    rw [fits_4] at hfit
    have HN := Lib.hid (fun9_any s 1 (by omega) w h)
    rw [opnd_4 _ _ hfit, hK]
    rw [hfit] at HN
    have HI : Hid (∀ w1, Keeps w w1 [] → _) := fun w1 (k1 : Keeps w w1 []) => indexFun_any (HAs.out.keep0 k1) (funV s.data.toList) hn.2.1
    clear hK hA hf hn hfit h hk hl
    generalize funV s.data.toList = f at *
    go_enter Tryz.func83, Tryz.ntmps83
    go_wp2_with fail
    refine HN.out.mono ?_
    rintro e w1 ⟨rfl, k1⟩
    have HK := Lib.hid (k1.alloc (.cells #[.string f.name, .int .i64 f.arity] 77))
    have HK1s := Lib.hid k1.size
    have HI1 := Lib.hid (HI.out _ HK.out.drew)
    have HBb : Hid (Blk (w1.alloc (.cells #[.string f.name, .int .i64 f.arity] 77)) w1.heap.size 77 #[.string f.name, .int .i64 f.arity]) := Blk.new _ _ _
    clear k1 HI
    go_upto_region 6 with fail
    refine wp_region_tx (fun W' => W'.cell? ⟨w1.heap.size, 0, none⟩ = some (.string f.name) ∧ W'.cell? ⟨w1.heap.size, 1, none⟩ = some (.int .i64 f.arity)) [(0, true), (1, true), (2, true), (3, true), (4, true), (5, true), (6, false), (7, false)] (by kernel_rfl) (by kernel_rfl) ⟨HBb.out.cell 0, HBb.out.cell 1⟩ (fun hHeld => ?_)
    (repeat (first | (refine wpTx_take (v := ?_) rfl (by assumption) ?_ (by rfl) ?_; rotate_left; (focus (intro w' hSw; (try dsimp only at hSw); go_simp; (try with_reducible rfl); done)); simp only [Act.put, List.setIfInBounds_toArray, List.set_cons_zero, List.set_cons_succ]) | (refine wpTx_skip rfl (by assumption) (by rfl) ?_; simp only [Act.put, List.setIfInBounds_toArray, List.set_cons_zero, List.set_cons_succ])))
    refine wpTx_go rfl (fun K hK => ?_)
    go_simp
    refine HI1.out.mono ?_
    rintro e w2 ⟨rfl, L', hp, hs⟩
    have HP := Lib.hid (And.intro hp hs)
    have hbx := HBb.out.drew.keep (w' := w2) hs.keep (fun hm => absurd (HAs.out.lt _ hm).2 (Nat.not_lt.2 HK1s.out))
    have HBx2 := Lib.hid (And.intro (hbx.cell 0) (hbx.cell 1))
    clear hp hs hbx
    refine hK.out _ _ ?_ ?_
    · exact HBx2.out
    (clear hHeld; intro hHeld; clear hK K; (try simp only [Act.put, List.setIfInBounds_toArray, List.set_cons_zero, List.set_cons_succ]))
    refine wpTx_last rfl (fun K hK => ?_)
    go_simp
    refine hK.out _ _ (NoPanic.normal ?_); clear hK K; (try simp only [Act.put, List.setIfInBounds_toArray, List.set_cons_zero, List.set_cons_succ])
    clear hHeld
    go_wp2_with fail
    go_ret
    exact ⟨rfl, L', HP.out.1, (ASt.of_keeps HK.out.drew L).trans HP.out.2⟩
  have d4 : (K == 4) = false := by rw [beq_eq_false_iff_ne]; omega
  by_cases h7 : k = 7
  · subst h7
    have d7 : (K == 7) = true := by rw [← hK]; rfl
    rw [fits_7] at hfit
    have HN := Lib.hid (fun9_any s 0 (by omega) w h)
    rw [opnd_7 _ _ hfit, hK]
    rw [hfit] at HN
    have HI : Hid (∀ w1, Keeps w w1 [] → _) := fun w1 (k1 : Keeps w w1 []) => predA_any (HAs.out.keep0 k1) (funV s.data.toList) hf hn.2.2
    clear hK hA hf hn hfit h hk hl
    generalize funV s.data.toList = f at *
    go_enter Tryz.func83, Tryz.ntmps83
    go_wp2_with fail
    refine HN.out.mono ?_
    rintro e w1 ⟨rfl, k1⟩
    have HK := Lib.hid (k1.alloc (.cells #[.string f.name, .int .i64 f.arity] 77))
    have HK1s := Lib.hid k1.size
    have HI1 := Lib.hid (HI.out _ HK.out)
    clear k1 HI
    go_wp2_with fail
    refine HI1.out.mono ?_
    rintro e w2 ⟨rfl, L', hp, hs⟩
    have HP := Lib.hid (And.intro hp hs)
    clear hp hs
    go_wp2_with fail
    go_ret
    exact ⟨rfl, L', HP.out.1, (ASt.of_keeps HK.out L).trans HP.out.2⟩
  have d7 : (K == 7) = false := by rw [beq_eq_false_iff_ne]; omega
  by_cases h8 : k = 8
  · subst h8
    have d8 : (K == 8) = true := by rw [← hK]; rfl
    have HN := Lib.hid (label9_any s (by omega) w h)
    have hdash := dash_is s
    rw [opnd_8, hK]
    clear hK hA hf hn hfit h
    by_cases hw : s.data.toList = [45]
    · have d0 : (s.toList == [45]) = true := by rw [hdash]; simpa using hw
      rw [if_pos hw]
      clear hw hdash
      go_enter Tryz.func83, Tryz.ntmps83
      go_wp2_with fail
      go_ret
      exact ⟨rfl, L, HAs.out, ASt.refl _ _⟩
    · have d0 : (s.toList == [45]) = false := by rw [hdash]; simpa using hw
      rw [if_neg hw]
      clear hw hdash
      go_enter Tryz.func83, Tryz.ntmps83
      go_wp2_with fail
      refine HN.out.mono ?_
      rintro e w1 ⟨rfl, k1⟩
      go_wp2_with fail
      go_ret
      exact ⟨rfl, L, HAs.out.keep0 k1, ASt.of_keeps k1 L⟩
  have d8 : (K == 8) = false := by rw [beq_eq_false_iff_ne]; omega
  have HN := Lib.hid (plain9_any k hk s hl w h)
  rw [opnd_o _ _ ⟨h3, h4, h7, h8⟩, hK]
  rw [hK] at HN
  clear hK hA hf hn hfit h h3 h4 h7 h8
  go_enter Tryz.func83, Tryz.ntmps83
  go_wp2_with fail
  refine HN.out.mono ?_
  rintro e w1 ⟨rfl, k1⟩
  go_wp2_with fail
  go_ret
  exact ⟨rfl, L, HAs.out.keep0 k1, ASt.of_keeps k1 L⟩
end Go.Proofs.YtpcihhdalofdiaaGreatDoor
