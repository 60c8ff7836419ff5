/- Objects as bytes: in plain words; what stands while they are laid. -/
import Derived.Test.YtdcjiohbnnipdaaNumB
import Derived.Test.YtdcjiohbnnipdaaObjTabB
import Derived.Test.YtdcjiohbnnipdaaCrcWalks
namespace Go.Proofs.Ytdcjiohbnnipdaa
open Go.RowKit

def szOf (kind : Int) : Nat := if kind = 8 then 2 else 1
def headB (o : LObj) : List Int := [82, 83, 76, 86, 1] ++ (be 2 o.atoms.length ++ (be 2 o.funs.length ++ (be 2 o.preds.length ++ be 2 o.code.length)))
def funB (f : LFun) : List Int := nameB f.name ++ be 1 f.arity.toNat
def predB (p : LPred) : List Int := nameB p.name ++ (be 1 p.arity.toNat ++ be 2 p.entry.toNat)
def argB (i : LIns) (k : Nat) : List Int := be (szOf ((kindsOf i.op).getD k 0)) (i.arg k).toNat
def insB (i : LIns) : List Int := be 1 i.op.toNat ++ (List.range (kindsOf i.op).length).flatMap (argB i)
def bodyB (o : LObj) : List Int := headB o ++ (o.atoms.flatMap nameB ++ (o.funs.flatMap funB ++ (o.preds.flatMap predB ++ o.code.flatMap insB)))
def sumB (l : List Int) : List Int := be 4 (Crc.int (Crc.go 0#32 l)).toNat
def encB (o : LObj) : List Int := bodyB o ++ sumB (bodyB o)

theorem flat_take {α : Type} {enc : α → List Int} {l : List α} {k : Nat} {x : α} (h : l[k]? = some x) : (l.take (k + 1)).flatMap enc = (l.take k).flatMap enc ++ enc x := by
  rw [List.take_add_one, h, List.flatMap_append]
  simp
theorem szOf_le (kind : Int) : 1 ≤ szOf kind ∧ szOf kind ≤ 2 := by unfold szOf; split <;> omega

/-- The buffer, as far as it has been laid. -/
structure BufSt (w wr : World) (A : Option Addr) (n c : Nat) (l : List Int) : Prop where
  grow : GrowB wr w.heap.size A n c l
  keep : Keeps w wr []
theorem BufSt.go {w wr W : World} {A : Option Addr} {n c : Nat} {l : List Int} (s : BufSt w wr A n c l) (k : Keeps wr W []) : BufSt w W A n c l := ⟨s.grow.keep0 k, s.keep.trans k⟩
theorem BufSt.len {w wr : World} {A : Option Addr} {n c : Nat} {l : List Int} (s : BufSt w wr A n c l) : l.length = n := s.grow.len
theorem BufSt.put {w wr w' : World} {A : Option Addr} {n c : Nat} {l more : List Int} {e : Ending} (s : BufSt w wr A n c l) (h : PutDone wr w.heap.size A n c l more e w') :
    ∃ A' c', e = .returned (.slice A' (n + more.length) c') ∧ BufSt w w' A' (n + more.length) c' (l ++ more) ∧ Keeps wr w' (ownL (.slice A n c)) := by
  obtain ⟨A', c', he, ho, hk, _⟩ := h
  refine ⟨A', c', he, ⟨.inl ho, ?_⟩, hk⟩
  have k := (s.keep.to_ _).trans hk
  have hl := s.grow.low
  exact ⟨k.os, k.tape, k.output, k.size, fun i hi _ => k.block i hi (fun hm => by have := hl i hm; omega)⟩
theorem BufSt.blk {w wr w' : World} {A : Option Addr} {n c : Nat} {l : List Int} (s : BufSt w wr A n c l) (k : Keeps wr w' (ownL (.slice A n c))) {g : Nat} {t : TypeId} {cs : Array Value} (h : Blk wr g t cs) (hne : t ≠ 5) : Blk w' g t cs := h.keep k (s.grow.outT h hne)
theorem BufSt.nums {w wr : World} {A : Option Addr} {n c : Nat} {l : List Int} (s : BufSt w wr A n c l) : Nums .u8 wr wr.heap.size A l := by
  rcases s.grow with h | ⟨⟨h1, h2, b, rfl, h4, h5, h6⟩, h7⟩
  · exact (Row.of_own h).toNums
  · intro k hk
    refine ⟨b, 0, l[k], rfl, h5, ?_, List.getElem?_eq_getElem hk⟩
    rw [Nat.zero_add]
    exact h6 k _ (by rw [u8s, List.getElem?_map, List.getElem?_eq_getElem hk]; rfl)
theorem isByte_be : ∀ k n, IsByte (be k n)
  | 0, _ => fun x hx => by cases hx
  | k + 1, n => fun x hx => by
    rw [be, List.mem_append, List.mem_singleton] at hx
    rcases hx with hx | rfl
    · exact isByte_be k _ x hx
    · omega
theorem isByte_app {a b : List Int} (ha : IsByte a) (hb : IsByte b) : IsByte (a ++ b) := fun x hx => by
  rcases List.mem_append.1 hx with h | h
  · exact ha x h
  · exact hb x h
theorem isByte_flat {α : Type} {enc : α → List Int} {l : List α} (h : ∀ x, IsByte (enc x)) : IsByte (l.flatMap enc) := fun x hx => by
  obtain ⟨y, _, hy⟩ := List.mem_flatMap.1 hx
  exact h y x hy
theorem isByte_name (s : ByteArray) : IsByte (nameB s) := isByte_app (isByte_be _ _) (bytesOf_byte s)
theorem isByte_body (o : LObj) : IsByte (bodyB o) :=
  isByte_app (isByte_app (by unfold IsByte; decide) (isByte_app (isByte_be _ _) (isByte_app (isByte_be _ _) (isByte_app (isByte_be _ _) (isByte_be _ _)))))
    (isByte_app (isByte_flat isByte_name) (isByte_app (isByte_flat fun _ => isByte_app (isByte_name _) (isByte_be _ _)) (isByte_app (isByte_flat fun _ => isByte_app (isByte_name _) (isByte_app (isByte_be _ _) (isByte_be _ _)))
      (isByte_flat fun _ => isByte_app (isByte_be _ _) (isByte_flat fun _ => isByte_be _ _)))))
def EncDone (o : LObj) (w : World) (e : Ending) (w' : World) : Prop :=
  Keeps w w' [] ∧ if checkE o = 0 then ∃ A c, e = .returned (.tuple #[.slice A (encB o).length c, .int .i64 0]) ∧ w'.ownsRow w.heap.size 5 1 (.slice A (encB o).length c) (encB o).length (u8s (encB o))
    else e = .returned (.tuple #[.slice none 0 0, .int .i64 (checkE o)])
theorem checkE_range {o : LObj} (h : checkE o = 0) : bigO o = false ∧ namedB o = true ∧ entriesB o = true ∧ ∀ i ∈ o.code, opIn i.op = true ∧ insOk i = true := by
  cases h1 : bigO o with
  | true => rw [checkE_big h1] at h; cases h
  | false =>
    cases h2 : namedB o with
    | false => rw [checkE_name h1 h2] at h; cases h
    | true =>
      cases h3 : dupO o with
      | true => rw [checkE_dup h1 h2 h3] at h; cases h
      | false =>
        cases h4 : entriesB o with
        | false => rw [checkE_ent h1 h2 h3 h4] at h; cases h
        | true =>
          rw [checkE_code h1 h2 h3 h4] at h
          refine ⟨rfl, rfl, rfl, ?_⟩
          revert h
          generalize o.code = l
          intro h
          induction l with
          | nil => intro i hi; cases hi
          | cons a l ih =>
            rw [codeErr] at h
            by_cases ha : insErr o a = 0
            · rw [if_pos ha] at h
              intro i hi
              rcases List.mem_cons.1 hi with rfl | hi
              · cases h5 : opIn i.op with
                | false => rw [insErr_op h5] at ha; cases ha
                | true =>
                  cases h6 : insOk i with
                  | false => rw [insErr_bad h5 h6] at ha; cases ha
                  | true => exact ⟨rfl, rfl⟩
              · exact ih h i hi
            · rw [if_neg ha] at h
              exact absurd h ha
end Go.Proofs.Ytdcjiohbnnipdaa
