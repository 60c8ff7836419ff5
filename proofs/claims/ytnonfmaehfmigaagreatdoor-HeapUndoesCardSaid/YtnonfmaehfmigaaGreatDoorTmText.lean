/- Terms in words: the program's Text. -/
import Derived.Test.YtnonfmaehfmigaaGreatDoorTmLaw
import Derived.Test.YtnonfmaehfmigaaGreatDoorText
import Derived.Test.YtnonfmaehfmigaaGreatDoorShelf
import Derived.Lib.SmallJoins
import Derived.Deep.Cut
import Derived.Deep.CutRange
import Derived.Deep.CutBlock
import Derived.Deep.DeepCutAuto
namespace Go.Proofs.YtnonfmaehfmigaaGreatDoor
open Go.RowKit

theorem keeps_growN (w : World) (k : Nat) (os : Array Obj) : Keeps w (Sort.grow (w.drewN k) os) [] :=
  ⟨rfl, rfl, rfl, by simp, fun i hi _ => by
    show ((w.drewN k).heap ++ os)[i]? = _
    rw [Array.getElem?_append_left (by simpa using hi)]
    rfl⟩
/-- The table that Itoa reads. -/
def Tab (w : World) : Prop := Lib.TabIs Tryz.prog w "internal/strconv.uint64pow10" .u64 Lib.pow10Tab
theorem Tab.keep {w w' : World} (h : Tab w) (k : Keeps w w' []) : Tab w' :=
  Joins.tab_stays (g := 0) (B := w.heap.size) (by kernel_rfl) h ⟨k.os, k.tape, k.output, k.size, fun i hi => k.block i hi (by simp)⟩ (Nat.le_refl _)
theorem itoa_any (n : Nat) (hn : n ≤ 9223372036854775807) (w : World) (ht : Tab w) :
    Calls Tryz.prog 50 #[.int .i64 n] w fun e w' => e = .returned (.string (stB (Lib.decDigits n))) ∧ Keeps w w' [] := by
  refine (Tryz.strconv_Itoa n (by omega) (by omega) w ht).mono ?_
  rintro e w' ⟨rfl, k, os, rfl⟩
  have e1 : Lib.itoa (n : Int) = Lib.decDigits n := by
    unfold Lib.itoa
    rw [if_neg (by omega)]
    simp
  exact ⟨by rw [e1]; rfl, keeps_growN w k os⟩
theorem own_room6 {w : World} {base n c size : Nat} {e : TypeId} {A : Option Addr} {xs : List Value} (h : w.ownsRow base e size (.slice A n c) n xs) : n ≤ c ∧ ∀ a, A = some a → a.block < w.heap.size := by
  rcases h.2 with ⟨h2, h3⟩ | ⟨g, cap, cur, hv, hb, hg, hn, _⟩
  · injection h2 with h4 h5 h6
    subst h4
    exact ⟨by omega, fun a ha => by cases ha⟩
  · injection hv with h4 h5 h6
    subst h4 h6
    refine ⟨hn, fun a ha => ?_⟩
    injection ha with ha
    subst ha
    exact (Array.getElem?_eq_some_iff.1 hg).1
theorem el_str : ElemT Tryz.prog 62 9 1 := elemT_of (b := 16) (z := .string ⟨#[]⟩) Tryz.underlying62 (by kernel_rfl) (by omega) rfl (by omega)
theorem add_st {a b c : ByteArray} (h : a ++ b = c) (hl : a.size + b.size ≤ 140737488355328) (w : World) : (Op.stringOp .add a b).run Tryz.prog w = .ok (.string c) w := by
  rw [run_string_add_sum (P := Tryz.prog) w _ _ (by omega), h]
end Go.Proofs.YtnonfmaehfmigaaGreatDoor
