/- Objects as plain data, and how they lie in memory. -/
import Derived.Test.YtpcihhdalofdiaaGreatDoorData
namespace Go.Proofs.YtpcihhdalofdiaaGreatDoor
open Go.RowKit

structure LFun where
  name : ByteArray
  arity : Int
deriving DecidableEq
structure LPred where
  name : ByteArray
  arity : Int
  entry : Int
deriving DecidableEq
structure LIns where
  op : Int
  a0 : Int
  a1 : Int
  a2 : Int
  a3 : Int
deriving DecidableEq
structure LObj where
  atoms : List ByteArray
  funs : List LFun
  preds : List LPred
  code : List LIns
deriving DecidableEq

def strE (s : ByteArray) : List Value := [.string s]
def funE (f : LFun) : List Value := [.string f.name, .int .i64 f.arity]
def predE (p : LPred) : List Value := [.string p.name, .int .i64 p.arity, .int .i64 p.entry]
def insE (i : LIns) : List Value := [.int .i64 i.op, .int .i64 i.a0, .int .i64 i.a1, .int .i64 i.a2, .int .i64 i.a3]
theorem strE_len (s : ByteArray) : (strE s).length = 1 := rfl
theorem funE_len (f : LFun) : (funE f).length = 2 := rfl
theorem predE_len (p : LPred) : (predE p).length = 3 := rfl
theorem insE_len (i : LIns) : (insE i).length = 5 := rfl
/-- An instruction as a value. -/
def insV (i : LIns) : Value := .agg #[.int .i64 i.op, .int .i64 i.a0, .int .i64 i.a1, .int .i64 i.a2, .int .i64 i.a3]

theorem strE_one (l : List ByteArray) : ∀ u ∈ l.flatMap strE, u.oneCell' = true := by
  intro u hu
  obtain ⟨s, _, h⟩ := List.mem_flatMap.1 hu
  simp only [strE, List.mem_singleton] at h
  subst h
  rfl

/-- The four slices of an object show its tables. -/
structure ObIs (w : World) (o : LObj) (Aa Af Ap Ac : Option Addr) (ca cf cp cc : Nat) : Prop where
  atoms : Rd w Aa (o.atoms.flatMap strE)
  funs : Rd w Af (o.funs.flatMap funE)
  preds : Rd w Ap (o.preds.flatMap predE)
  code : Rd w Ac (o.code.flatMap insE)
  za : Aa = none → ca = 0
  zf : Af = none → cf = 0
  zp : Ap = none → cp = 0
  zc : Ac = none → cc = 0
theorem ObIs.keep {w w' : World} {o : LObj} {Aa Af Ap Ac : Option Addr} {ca cf cp cc : Nat} (h : ObIs w o Aa Af Ap Ac ca cf cp cc) (k : Keeps w w' []) : ObIs w' o Aa Af Ap Ac ca cf cp cc :=
  ⟨h.atoms.keep k, h.funs.keep k, h.preds.keep k, h.code.keep k, h.za, h.zf, h.zp, h.zc⟩
/-- No more than can be looked at. -/
structure Fits (o : LObj) : Prop where
  atoms : o.atoms.length ≤ 65536
  funs : o.funs.length ≤ 65536
  preds : o.preds.length ≤ 65536
  code : o.code.length ≤ 65536
end Go.Proofs.YtpcihhdalofdiaaGreatDoor
