/- Bytes as objects, in plain words: what a reader makes of its bytes. -/
import Derived.Test.YtdcjiohbnnipdaaRefEnc
namespace Go.Proofs.Ytdcjiohbnnipdaa
open Go.RowKit

/-- What is left of the bytes; what was wrong first. -/
structure RdS where
  rest : List Int
  err : Int
def takeR (n : Nat) (s : RdS) : List Int × RdS := if s.err = 0 ∧ n ≤ s.rest.length then (s.rest.take n, ⟨s.rest.drop n, 0⟩) else ([], ⟨s.rest, if s.err = 0 then 3 else s.err⟩)
def valB (l : List Int) : Nat := l.foldl (fun n c => n * 256 + c.toNat) 0
def numR (k : Nat) (s : RdS) : Nat × RdS := (valB (takeR k s).1, (takeR k s).2)
def strB (l : List Int) : ByteArray := l.foldl (fun r n => r.push (UInt8.ofNat n.toNat)) ByteArray.empty
def nameR (s : RdS) : ByteArray × RdS := (strB (takeR (numR 1 s).1 (numR 1 s).2).1, (takeR (numR 1 s).1 (numR 1 s).2).2)
def argsR : List Int → RdS → List Int × RdS
  | [], s => ([], s)
  | k :: ks, s => (((numR (szOf k) s).1 : Int) :: (argsR ks (numR (szOf k) s).2).1, (argsR ks (numR (szOf k) s).2).2)
def opR (op : Nat) (s : RdS) : RdS := if s.err = 0 ∧ 26 < op then ⟨s.rest, 8⟩ else s
def insOf (op : Int) (l : List Int) : LIns := ⟨op, l.getD 0 0, l.getD 1 0, l.getD 2 0, l.getD 3 0⟩
def insR (s : RdS) : LIns × RdS := (insOf (numR 1 s).1 (argsR (kindsOf (numR 1 s).1) (opR (numR 1 s).1 (numR 1 s).2)).1, (argsR (kindsOf (numR 1 s).1) (opR (numR 1 s).1 (numR 1 s).2)).2)
def funR (s : RdS) : LFun × RdS := (⟨(nameR s).1, (numR 1 (nameR s).2).1⟩, (numR 1 (nameR s).2).2)
def predR (s : RdS) : LPred × RdS := (⟨(nameR s).1, (numR 1 (nameR s).2).1, (numR 2 (numR 1 (nameR s).2).2).1⟩, (numR 2 (numR 1 (nameR s).2).2).2)
def manyR {α : Type} (rd : RdS → α × RdS) : Nat → RdS → List α × RdS
  | 0, s => ([], s)
  | n + 1, s => if s.err = 0 then ((rd s).1 :: (manyR rd n (rd s).2).1, (manyR rd n (rd s).2).2) else ([], s)
def markR (c : Int) (s : RdS) : RdS := if (takeR 1 s).1.length = 1 ∧ (takeR 1 s).1.getD 0 0 ≠ c then ⟨(takeR 1 s).2.rest, 5⟩ else (takeR 1 s).2
def magicL : List Int := [82, 83, 76, 86, 1]
def magicR (s : RdS) : RdS := magicL.foldl (fun s c => markR c s) s
structure HdR where
  na : Nat
  nf : Nat
  np : Nat
  nc : Nat
  s : RdS
def fullR (na nf np nc : Nat) (s : RdS) : RdS := if s.err = 0 ∧ bigB na nf np nc = true then ⟨s.rest, 2⟩ else s
def headR (s : RdS) : HdR :=
  let a := numR 2 (magicR s)
  let f := numR 2 a.2
  let p := numR 2 f.2
  let c := numR 2 p.2
  ⟨a.1, f.1, p.1, c.1, fullR a.1 f.1 p.1 c.1 c.2⟩
def partsR (h : HdR) : LObj × RdS :=
  let a := manyR nameR h.na h.s
  let f := manyR funR h.nf a.2
  let p := manyR predR h.np f.2
  let c := manyR insR h.nc p.2
  (⟨a.1, f.1, p.1, c.1⟩, c.2)
def checkR (o : LObj) (s : RdS) : RdS := if s.err = 0 then ⟨s.rest, checkE o⟩ else s
def objR (s : RdS) : LObj × RdS := ((partsR (headR s)).1, checkR (partsR (headR s)).1 (partsR (headR s)).2)
def noObj : LObj := ⟨[], [], [], []⟩
/-- All of it: the object and the error of these bytes. -/
def decB (l : List Int) : LObj × Int :=
  let r := objR ⟨l, 0⟩
  let m := numR 4 r.2
  if m.2.err ≠ 0 then (noObj, m.2.err)
  else if m.2.rest ≠ [] then (noObj, 4)
  else if (m.1 : Int) ≠ Crc.int (Crc.go 0#32 (l.take (l.length - r.2.rest.length))) then (noObj, 6)
  else (r.1, 0)

theorem takeR_ok {n : Nat} {s : RdS} (h : s.err = 0) (hn : n ≤ s.rest.length) : takeR n s = (s.rest.take n, ⟨s.rest.drop n, 0⟩) := by rw [takeR, if_pos ⟨h, hn⟩]
theorem takeR_short {n : Nat} {s : RdS} (h : s.err = 0) (hn : ¬ n ≤ s.rest.length) : takeR n s = ([], ⟨s.rest, 3⟩) := by rw [takeR, if_neg (fun h' => hn h'.2), if_pos h]
theorem takeR_bad {n : Nat} {s : RdS} (h : s.err ≠ 0) : takeR n s = ([], s) := by rw [takeR, if_neg (fun h' => h h'.1), if_neg h]
theorem takeR_len (n : Nat) (s : RdS) : (takeR n s).1.length ≤ n := by
  unfold takeR
  split
  · simp only [List.length_take]; omega
  · simp
theorem takeR_rest (n : Nat) (s : RdS) : ∃ k, (takeR n s).2.rest = s.rest.drop k := by
  unfold takeR
  split
  · exact ⟨n, rfl⟩
  · exact ⟨0, rfl⟩
theorem takeR_restLen (n : Nat) (s : RdS) : (takeR n s).2.rest.length ≤ s.rest.length := by
  obtain ⟨k, hk⟩ := takeR_rest n s
  rw [hk, List.length_drop]
  omega
theorem isByte_take {l : List Int} (h : IsByte l) (n : Nat) : IsByte (l.take n) := fun x hx => h x (List.mem_of_mem_take hx)
theorem isByte_drop {l : List Int} (h : IsByte l) (n : Nat) : IsByte (l.drop n) := fun x hx => h x (List.mem_of_mem_drop hx)
theorem takeR_byte {n : Nat} {s : RdS} (h : IsByte s.rest) : IsByte (takeR n s).1 ∧ IsByte (takeR n s).2.rest := by
  unfold takeR
  split
  · exact ⟨isByte_take h _, isByte_drop h _⟩
  · exact ⟨fun x hx => absurd hx (by simp), h⟩
theorem takeR_keep {n : Nat} {s : RdS} (h : s.err ≠ 0) : (takeR n s).2 = s := by rw [takeR_bad h]
theorem valB_snoc (l : List Int) (c : Int) : valB (l ++ [c]) = valB l * 256 + c.toNat := by simp [valB]
theorem valB_from (l : List Int) : ∀ acc : Nat, IsByte l → l.foldl (fun n c => n * 256 + c.toNat) acc < (acc + 1) * 256 ^ l.length := by
  induction l with
  | nil => intro acc _; simp
  | cons c l ih =>
    intro acc h
    have h2 := h c (by simp)
    refine Nat.lt_of_lt_of_le (ih _ (fun x hx => h x (by simp [hx]))) ?_
    rw [List.length_cons, Nat.pow_succ, Nat.mul_comm (256 ^ l.length) 256, ← Nat.mul_assoc]
    exact Nat.mul_le_mul_right _ (by show acc * 256 + c.toNat + 1 ≤ _; omega)
theorem valB_lt {l : List Int} (h : IsByte l) : valB l < 256 ^ l.length := by
  have := valB_from l 0 h
  simpa [valB] using this
theorem numR_lt {k : Nat} {s : RdS} (h : IsByte s.rest) : (numR k s).1 < 256 ^ k := by
  refine Nat.lt_of_lt_of_le (valB_lt (takeR_byte h).1) ?_
  exact Nat.pow_le_pow_right (by decide) (takeR_len k s)
theorem numR_keep {k : Nat} {s : RdS} (h : s.err ≠ 0) : numR k s = (0, s) := by rw [numR, takeR_bad h]; rfl
theorem nameR_keep {s : RdS} (h : s.err ≠ 0) : (nameR s).2 = s := by rw [nameR, numR_keep h, takeR_bad h]
theorem argsR_keep {s : RdS} (h : s.err ≠ 0) : ∀ ks, (argsR ks s).2 = s
  | [] => rfl
  | k :: ks => by rw [argsR, numR_keep h]; exact argsR_keep h ks
theorem argsR_snoc (k : Int) : ∀ (l : List Int) (s : RdS), argsR (l ++ [k]) s = ((argsR l s).1 ++ [((numR (szOf k) (argsR l s).2).1 : Int)], (numR (szOf k) (argsR l s).2).2)
  | [], s => rfl
  | x :: l, s => by rw [List.cons_append, argsR, argsR_snoc k l, argsR]; rfl
theorem argsR_len : ∀ (l : List Int) (s : RdS), (argsR l s).1.length = l.length
  | [], _ => rfl
  | x :: l, s => by rw [argsR, List.length_cons, argsR_len l, List.length_cons]
/-- Where a reader of many stands behind k of them. -/
structure ManyAt {α : Type} (rd : RdS → α × RdS) (n : Nat) (s0 : RdS) (k : Nat) (acc : List α) (s : RdS) : Prop where
  le : k ≤ n
  len : acc.length = k
  eq : manyR rd n s0 = (acc ++ (manyR rd (n - k) s).1, (manyR rd (n - k) s).2)
theorem ManyAt.start {α : Type} (rd : RdS → α × RdS) (n : Nat) (s0 : RdS) : ManyAt rd n s0 0 [] s0 := ⟨Nat.zero_le _, rfl, rfl⟩
theorem ManyAt.step {α : Type} {rd : RdS → α × RdS} {n : Nat} {s0 s : RdS} {k : Nat} {acc : List α} (h : ManyAt rd n s0 k acc s) (hk : k < n) (he : s.err = 0) : ManyAt rd n s0 (k + 1) (acc ++ [(rd s).1]) (rd s).2 := by
  refine ⟨hk, by simp [h.len], ?_⟩
  rw [h.eq, show n - k = (n - (k + 1)) + 1 by omega, manyR, if_pos he, List.append_assoc]
  rfl
theorem ManyAt.stop {α : Type} {rd : RdS → α × RdS} {n : Nat} {s0 s : RdS} {k : Nat} {acc : List α} (h : ManyAt rd n s0 k acc s) (he : k = n ∨ s.err ≠ 0) : manyR rd n s0 = (acc, s) := by
  rw [h.eq]
  have hm : manyR rd (n - k) s = ([], s) := by
    by_cases h0 : n - k = 0
    · rw [h0, manyR]
    · obtain ⟨m, hm⟩ : ∃ m, n - k = m + 1 := ⟨n - k - 1, by omega⟩
      have h1 : ¬ s.err = 0 := by
        rcases he with he | he
        · omega
        · exact he
      rw [hm, manyR, if_neg h1]
  rw [hm]
  simp only [List.append_nil]
end Go.Proofs.Ytdcjiohbnnipdaa
