/- The document's take: names, and terms with a name. -/
import Derived.Test.YtnonfmaehfmigaaGreatDoorTmTakeL
namespace Go.Proofs.YtnonfmaehfmigaaGreatDoor
open Go.RowKit

def nameR (p : Txt → Option (Tm × Txt)) (l : Txt) : Option (Tm × Txt) := if l.takeWhile isAl = [] then none else if (l.dropWhile isAl).head? = some 40 then strR (l.takeWhile isAl) (moreR p (l.dropWhile isAl).tail) else some (.mk 1 0 (stB (l.takeWhile isAl)) [], l.dropWhile isAl)
theorem nameR_none {p : Txt → Option (Tm × Txt)} {l : Txt} (h : l.takeWhile isAl = []) : nameR p l = none := if_pos h
theorem nameR_con {p : Txt → Option (Tm × Txt)} {l : Txt} (h : l.takeWhile isAl ≠ []) (h2 : (l.dropWhile isAl).head? ≠ some 40) : nameR p l = some (.mk 1 0 (stB (l.takeWhile isAl)) [], l.dropWhile isAl) := by rw [nameR, if_neg h, if_neg h2]
theorem nameR_str {p : Txt → Option (Tm × Txt)} {l : Txt} (h : l.takeWhile isAl ≠ []) (h2 : (l.dropWhile isAl).head? = some 40) : nameR p l = strR (l.takeWhile isAl) (moreR p (l.dropWhile isAl).tail) := by rw [nameR, if_neg h, if_pos h2]
theorem nm_len (l : Txt) : (l.takeWhile isAl).length ≤ l.length := (List.takeWhile_sublist _).length_le
/-- What stands behind a name: a byte below '0'; one between '9' and 'a'; one behind 'z'; nothing. -/
def BrHyp_1 (l : Txt) : Prop := ∃ c : UInt8, l[(l.takeWhile isAl).length]? = some c ∧ c.toNat < 48
def BrHyp_2 (l : Txt) : Prop := ∃ c : UInt8, l[(l.takeWhile isAl).length]? = some c ∧ 57 < c.toNat ∧ c.toNat < 97
def BrHyp_3 (l : Txt) : Prop := ∃ c : UInt8, l[(l.takeWhile isAl).length]? = some c ∧ 122 < c.toNat
def BrHyp_4 (l : Txt) : Prop := (l.takeWhile isAl).length = l.length
theorem br_all (l : Txt) : BrHyp_1 l ∨ BrHyp_2 l ∨ BrHyp_3 l ∨ BrHyp_4 l := by
  by_cases h : (l.takeWhile isAl).length = l.length
  · exact .inr (.inr (.inr h))
  · have hlt : (l.takeWhile isAl).length < l.length := by have := nm_len l; omega
    have hx := List.getElem?_eq_getElem hlt
    have hd : (l.dropWhile isAl).head? = some l[(l.takeWhile isAl).length] := by
      have e : l.drop (l.takeWhile isAl).length = l.dropWhile isAl := by
        conv => lhs; rw [← take_drop_while isAl l]; rw [show (l.takeWhile isAl ++ l.dropWhile isAl).takeWhile isAl = l.takeWhile isAl by rw [take_drop_while]]; rw [List.drop_left]
      rw [← e, List.head?_drop, hx]
    have hno : isAl l[(l.takeWhile isAl).length] = false := by
      cases hal : isAl l[(l.takeWhile isAl).length] with
      | false => rfl
      | true =>
        have := List.head?_dropWhile_not isAl l
        rw [hd] at this
        simp [hal] at this
    have hc : l[(l.takeWhile isAl).length].toNat < 48 ∨ (57 < l[(l.takeWhile isAl).length].toNat ∧ l[(l.takeWhile isAl).length].toNat < 97) ∨ 122 < l[(l.takeWhile isAl).length].toNat := by
      simp [isAl, isSm, isDig] at hno
      omega
    rcases hc with hc | hc | hc
    · exact .inl ⟨_, hx, hc⟩
    · exact .inr (.inl ⟨_, hx, hc.1, hc.2⟩)
    · exact .inr (.inr (.inl ⟨_, hx, hc⟩))
end Go.Proofs.YtnonfmaehfmigaaGreatDoor
