/- What is wrong with an object: in plain words. -/
import Derived.Test.YtpcihhdalofdiaaGreatDoorOpE
import Derived.Test.YtpcihhdalofdiaaGreatDoorName
import Derived.Test.YtpcihhdalofdiaaGreatDoorTwice
namespace Go.Proofs.YtpcihhdalofdiaaGreatDoor
open Go.RowKit

def funOk (f : LFun) : Bool := nameOk f.name && (decide (1 ≤ f.arity) && decide (f.arity ≤ 8))
def predOk (p : LPred) : Bool := nameOk p.name && (decide (0 ≤ p.arity) && decide (p.arity ≤ 8))
def namedB (o : LObj) : Bool := o.atoms.all nameOk && (o.funs.all funOk && o.preds.all predOk)
def keyF (p : LPred) : LFun := ⟨p.name, p.arity⟩
def entB (n : Nat) (p : LPred) : Bool := p.entry == 65535 || (decide (0 ≤ p.entry) && decide (p.entry < n))
def entL (l : List LPred) : List Int := (l.filter fun p => p.entry != 65535).map (·.entry)
def entriesB (o : LObj) : Bool := o.preds.all (entB o.code.length) && !dupB (entL o.preds)
def hasB (o : LObj) (kind : Nat) (n : Int) : Bool :=
  if kind = 3 then decide (n < o.atoms.length) else if kind = 4 then decide (n < o.funs.length) else if kind = 7 then decide (n < o.preds.length) else if kind = 8 then decide (n < o.code.length) || n == 65535 else true
def argHas (o : LObj) (i : LIns) (k : Nat) : Bool := hasB o ((kindsOf i.op).getD k 0).toNat (i.arg k)
def insErr (o : LObj) (i : LIns) : Int := if opIn i.op = false then 8 else if insOk i = false then 9 else if (List.range (kindsOf i.op).length).all (argHas o i) then 0 else 9
def codeErr (o : LObj) : List LIns → Int
  | [] => 0
  | i :: r => if insErr o i = 0 then codeErr o r else insErr o i
def bigB (a f p c : Int) : Bool := (if a < f then decide (256 < f) else decide (256 < a)) || (decide (64 < p) || decide (1024 < c))
def bigO (o : LObj) : Bool := bigB o.atoms.length o.funs.length o.preds.length o.code.length
def dupO (o : LObj) : Bool := dupB o.atoms || (dupB o.funs || dupB (o.preds.map keyF))
def checkE (o : LObj) : Int := if bigO o then 2 else if namedB o = false then 7 else if dupO o then 11 else if entriesB o = false then 7 else codeErr o o.code

theorem take_all1 {α : Type} {p : α → Bool} {l : List α} {k : Nat} {x : α} (hx : l[k]? = some x) (hp : p x = true) (hb : ∀ y ∈ l.take k, p y = true) : ∀ y ∈ l.take (k + 1), p y = true := by
  intro y hy
  rw [List.take_add_one, hx] at hy
  simp at hy
  rcases hy with hy | rfl
  · exact hb y hy
  · exact hp
theorem all_of {α : Type} {p : α → Bool} {l : List α} {n : Nat} (hl : l.length = n) (h : ∀ y ∈ l.take n, p y = true) : l.all p = true := by
  rw [List.take_of_length_le (by omega)] at h
  exact List.all_eq_true.2 h
theorem all_no {α : Type} {p : α → Bool} {l : List α} {k : Nat} {x : α} (hx : l[k]? = some x) (hp : p x = false) : l.all p = false := by
  rw [List.all_eq_false]
  exact ⟨x, List.mem_of_getElem? hx, by rw [hp]; simp⟩
theorem nameOk_size {s : ByteArray} (h : nameOk s = true) : s.size ≤ 32 := by
  simp only [nameOk, Bool.and_eq_true, decide_eq_true_eq] at h
  exact h.1.1.2
theorem key_string {s : ByteArray} (h : s.size ≤ 32) : ∃ l, keyOf Tryz.prog 9 (.string s) = some l :=
  ⟨_, WideMaps.keyOf_string_mk Tryz.underlying9 (by unfold maxLen; omega)⟩
theorem key_int {x : Int} (h0 : -9223372036854775808 ≤ x) (h1 : x ≤ 9223372036854775807) : ∃ l, keyOf Tryz.prog 3 (.int .i64 x) = some l :=
  ⟨_, Maps.keyOf_int_mk Tryz.underlying3 (WalkArith.wf_i64 (by omega))⟩
theorem codeErr_step {o : LObj} {l : List LIns} {k : Nat} {i : LIns} (hx : l[k]? = some i) (h : codeErr o l = codeErr o (l.drop k)) (h0 : insErr o i = 0) : codeErr o l = codeErr o (l.drop (k + 1)) := by
  rw [h, List.drop_eq_getElem_cons (List.getElem?_eq_some_iff.1 hx).1, codeErr, (List.getElem?_eq_some_iff.1 hx).2, if_pos h0]
theorem codeErr_stop {o : LObj} {l : List LIns} {k : Nat} {i : LIns} (hx : l[k]? = some i) (h : codeErr o l = codeErr o (l.drop k)) (h0 : insErr o i ≠ 0) : codeErr o l = insErr o i := by
  rw [h, List.drop_eq_getElem_cons (List.getElem?_eq_some_iff.1 hx).1, codeErr, (List.getElem?_eq_some_iff.1 hx).2, if_neg h0]
theorem codeErr_end {o : LObj} {l : List LIns} {n : Nat} (hl : l.length = n) (h : codeErr o l = codeErr o (l.drop n)) : codeErr o l = 0 := by
  rw [h, List.drop_eq_nil_of_le (by omega), codeErr]
theorem fun_formed (s : ByteArray) (a : Int) : (Value.agg #[.string s, .int .i64 a]).formed Tryz.prog 77 = true := by kernel_rfl
set_option maxRecDepth 100000 in
theorem key_fun_mk {s : ByteArray} {a : Int} (h : s.size ≤ 32) (h0 : -9223372036854775808 ≤ a) (h1 : a ≤ 9223372036854775807) : ∃ l, keyOf Tryz.prog 77 (.agg #[.string s, .int .i64 a]) = some l := by
  have hw : (Lit.int .i64 a).wf = true := WalkArith.wf_i64 (by omega)
  have hs : s.size ≤ maxLen := by unfold maxLen; omega
  obtain ⟨m, hm⟩ : ∃ m, Tryz.prog.types.size = m + 1 := ⟨Tryz.prog.types.size - 1, by have := row_fun; omega⟩
  have hkt : Tryz.prog.keyType 77 = true := by kernel_rfl
  have hf : (Value.agg #[.string s, .int .i64 a]).formed Tryz.prog 77 = true := fun_formed s a
  have c1 : Tryz.prog.cellsOf 77 = 2 := by kernel_rfl
  have c2 : Tryz.prog.cellsOf 9 = 1 := by kernel_rfl
  have c3 : Tryz.prog.cellsOf 3 = 1 := by kernel_rfl
  have u1 := Tryz.underlying9
  have u2 := Tryz.underlying3
  unfold keyOf
  simp only [Tryz.underlying77]
  rw [if_pos (by rw [hkt, hf]; rfl), hm]
  unfold Program.keyLits
  simp only [Tryz.underlying77, Value.cells]
  rw [if_pos ⟨by rw [c1]; rfl, by decide +kernel⟩]
  simp [c2, c3, Program.keyLits, u1, u2, hw, hs]
end Go.Proofs.YtpcihhdalofdiaaGreatDoor
