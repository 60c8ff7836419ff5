/- Terms in words: the program's Text. -/
import Derived.Test.YtjbomjnkjcafcaaTmLaw
import Derived.Test.YtjbomjnkjcafcaaText
import Derived.Test.YtjbomjnkjcafcaaShelf
import Derived.Lib.SmallJoins
import Derived.Deep.Cut
import Derived.Deep.CutRange
import Derived.Deep.CutBlock
import Derived.Deep.DeepCutAuto
namespace Go.Proofs.Ytjbomjnkjcafcaa
open Go.RowKit

theorem keeps_growN (w : World) (k : Nat) (os : Array Obj) : Keeps w (Sort.grow (w.drewN k) os) [] :=
  ⟨rfl, rfl, rfl, by simp, fun i hi _ => by
    show ((w.drewN k).heap ++ os)[i]? = _
    rw [Array.getElem?_append_left (by simpa using hi)]
    rfl⟩
/-- The table that Itoa reads. -/
def Tab (w : World) : Prop := Lib.TabIs Try.prog w "internal/strconv.uint64pow10" .u64 Lib.pow10Tab
theorem own_room6 {w : World} {base n c size : Nat} {e : TypeId} {A : Option Addr} {xs : List Value} (h : w.ownsRow base e size (.slice A n c) n xs) : n ≤ c ∧ ∀ a, A = some a → a.block < w.heap.size := by
  rcases h.2 with ⟨h2, h3⟩ | ⟨g, cap, cur, hv, hb, hg, hn, _⟩
  · injection h2 with h4 h5 h6
    subst h4
    exact ⟨by omega, fun a ha => by cases ha⟩
  · injection hv with h4 h5 h6
    subst h4 h6
    refine ⟨hn, fun a ha => ?_⟩
    injection ha with ha
    subst ha
    exact (Array.getElem?_eq_some_iff.1 hg).1
theorem el_str : ElemT Try.prog 81 9 1 := elemT_of (b := 16) (z := .string ⟨#[]⟩) Try.underlying81 (by kernel_rfl) (by omega) rfl (by omega)
theorem add_st {a b c : ByteArray} (h : a ++ b = c) (hl : a.size + b.size ≤ 140737488355328) (w : World) : (Op.stringOp .add a b).run Try.prog w = .ok (.string c) w := by
  rw [run_string_add_sum (P := Try.prog) w _ _ (by omega), h]
end Go.Proofs.Ytjbomjnkjcafcaa
