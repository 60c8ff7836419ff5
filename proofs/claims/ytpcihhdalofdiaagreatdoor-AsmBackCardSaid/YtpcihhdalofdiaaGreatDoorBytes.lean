/- Strings as bytes; []byte(s); the first place of what is so. Over any program. -/
import Derived.Test.YtpcihhdalofdiaaGreatDoorData
import Derived.Lib.ConvBytes
import Derived.Laws.Strings
namespace Go.Proofs.YtpcihhdalofdiaaGreatDoor
open Go.RowKit

def bytesOf (s : ByteArray) : List Int := s.data.toList.map fun c => (c.toNat : Int)
theorem bytesOf_len (s : ByteArray) : (bytesOf s).length = s.size := by simp [bytesOf]
theorem bytesOf_byte (s : ByteArray) : ∀ x ∈ bytesOf s, 0 ≤ x ∧ x < 256 := by
  intro x hx
  obtain ⟨c, _, rfl⟩ := List.mem_map.1 hx
  have := c.toNat_lt
  omega
theorem bytesOf_at (s : ByteArray) (k : Nat) (hk : k < s.size) : (bytesOf s)[k]? = some (s[k].toNat : Int) := by
  rw [bytesOf, List.getElem?_map, List.getElem?_eq_getElem (by simpa using hk)]
  rfl
theorem bytesOf_inj {a b : ByteArray} (h : bytesOf a = bytesOf b) : a = b := by
  obtain ⟨⟨a⟩⟩ := a
  obtain ⟨⟨b⟩⟩ := b
  unfold bytesOf at h
  simp only at h
  congr 2
  refine (List.map_inj_right (f := fun c : UInt8 => (c.toNat : Int)) ?_).1 h
  intro x y hxy
  exact UInt8.toNat_inj.1 (by omega)
theorem strEmpty (s : ByteArray) (h : s.size = 0) : s.toList.isEmpty = true := by
  rw [ByteArray.toList_eq, List.isEmpty_iff]
  exact List.eq_nil_of_length_eq_zero (show s.data.toList.length = 0 from h)
theorem strFull (s : ByteArray) (h : s.size ≠ 0) : s.toList.isEmpty = false := by
  cases hs : s.toList.isEmpty with
  | false => rfl
  | true =>
    rw [ByteArray.toList_eq, List.isEmpty_iff] at hs
    exact absurd (show s.size = 0 from congrArg List.length hs) h
theorem strNil (s : ByteArray) (h : s.size = 0) : s = ⟨#[]⟩ := by
  obtain ⟨⟨l⟩⟩ := s
  cases l with
  | nil => rfl
  | cons a l => simp [ByteArray.size] at h

/-- '[]byte(s)': a new row that holds the string's bytes. -/
theorem conv_bytes {P : Program} (w : World) (src dst e : TypeId) (s : ByteArray) (hs : P.underlying src = some .string) (hd : P.underlying dst = some (.slice e)) (he : P.underlying e = some (.int .u8)) :
    ∃ c w1, (convert src dst (.string s)).run P w = .ok (.slice (some ⟨w.heap.size, 0, none⟩) s.size c) w1 ∧ Nums .u8 w1 w1.heap.size (some ⟨w.heap.size, 0, none⟩) (bytesOf s) ∧ Keeps w w1 [] := by
  refine ⟨_, _, Lib.run_convert_string_bytes w src dst e s hs hd he, ?_, ?_⟩
  · intro k hk
    rw [bytesOf_len] at hk
    refine ⟨w.heap.size, 0, (s[k].toNat : Int), rfl, by rw [Lib.bytesWorld_size]; omega, ?_, bytesOf_at s k hk⟩
    rw [Nat.zero_add, Lib.bytesWorld_cell w e s k hk]
    congr 3
    rw [List.getD_eq_getElem?_getD, List.getElem?_eq_getElem (by simpa using hk)]
    rfl
  · refine ⟨?_, ?_, ?_, by rw [Lib.bytesWorld_size]; omega, fun k hk _ => Lib.bytesWorld_at_old w e s k hk⟩
    · simp only [Lib.bytesWorld, World.freeze]; split <;> rfl
    · simp only [Lib.bytesWorld, World.freeze]; split <;> rfl
    · simp only [Lib.bytesWorld, World.freeze]; split <;> rfl

/-- The first place of what is so; -1: none. -/
def findI {α : Type} (p : α → Bool) (l : List α) : Int := if l.any p then (l.findIdx p : Int) else -1
theorem findI_none {α : Type} {p : α → Bool} {l : List α} (h : ∀ x ∈ l, p x = false) : findI p l = -1 := by
  rw [findI, if_neg]
  simp only [List.any_eq_true, not_exists, not_and, Bool.not_eq_true]
  exact h
theorem findI_some {α : Type} {p : α → Bool} {l : List α} {k : Nat} {x : α} (hx : l[k]? = some x) (hp : p x = true) (hb : ∀ y ∈ l.take k, p y = false) : findI p l = k := by
  have hk := (List.getElem?_eq_some_iff.1 hx).1
  have hxe := (List.getElem?_eq_some_iff.1 hx).2
  rw [findI, if_pos (List.any_eq_true.2 ⟨x, List.mem_of_getElem? hx, hp⟩)]
  congr 1
  rw [List.findIdx_eq hk]
  refine ⟨by rw [hxe]; exact hp, fun j hj => ?_⟩
  have := hb (l[j]'(by omega)) (List.mem_iff_getElem?.2 ⟨j, by rw [List.getElem?_take, if_pos hj]; exact List.getElem?_eq_getElem (by omega)⟩)
  simpa using this
theorem findI_nonneg {α : Type} (p : α → Bool) (l : List α) : decide (0 ≤ findI p l) = l.any p := by
  unfold findI
  cases h : l.any p <;> simp
theorem take_snoc_all {α : Type} {p : α → Bool} {l : List α} {k : Nat} {x : α} (hx : l[k]? = some x) (hp : p x = false) (hb : ∀ y ∈ l.take k, p y = false) : ∀ y ∈ l.take (k + 1), p y = false := by
  intro y hy
  rw [List.take_add_one, hx] at hy
  simp at hy
  rcases hy with hy | rfl
  · exact hb y hy
  · exact hp
theorem not_any {α : Type} {p : α → Bool} {l : List α} (h : ∀ x ∈ l, p x = false) : l.any p = false := by
  rw [List.any_eq_false]
  intro x hx
  rw [h x hx]
  simp
theorem any_at {α : Type} {p : α → Bool} {l : List α} {k : Nat} {x : α} (hx : l[k]? = some x) (hp : p x = true) : l.any p = true := List.any_eq_true.2 ⟨x, List.mem_of_getElem? hx, hp⟩
end Go.Proofs.YtpcihhdalofdiaaGreatDoor
