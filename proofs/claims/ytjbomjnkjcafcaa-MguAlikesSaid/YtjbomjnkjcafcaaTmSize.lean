/- Terms: how many parts; few? -/
import Derived.Test.YtjbomjnkjcafcaaTmLaw
import Derived.Test.YtjbomjnkjcafcaaText
namespace Go.Proofs.Ytjbomjnkjcafcaa
open Go.RowKit

theorem tSizes_take {l : List Tm} {k : Nat} {a : Tm} (h : l[k]? = some a) : tSizes (l.take (k + 1)) = tSizes (l.take k) + tSize a := by
  rw [List.take_add_one, h]
  exact tSizes_snoc _ _
theorem tSizes_le (l : List Tm) (k : Nat) : tSizes (l.take k) ≤ tSizes l := by
  induction l generalizing k with
  | nil => simp
  | cons a l ih =>
    cases k with
    | zero => simp [tSizes]
    | succ k => rw [List.take_succ_cons, tSizes, tSizes]; have := ih k; omega

/-! ### Few -/
mutual
def tFew : Tm → Int → Int → Int
  | .mk _ _ s l, d, f => if d ≤ 0 ∨ f - 1 - s.size / 40 < 0 then -1 else tFews l (d - 1) (f - 1 - s.size / 40)
def tFews : List Tm → Int → Int → Int
  | [], _, f => f
  | a :: l, d, f => if tFew a d f < 0 then -1 else tFews l d (tFew a d f)
end
mutual
theorem tFew_size : ∀ (t : Tm) (d f : Int), 0 ≤ tFew t d f → tFew t d f + tSize t ≤ f
  | .mk k n s l, d, f, h => by
    rw [tFew] at h ⊢
    split at h
    · omega
    · rename_i hc
      rw [if_neg hc, tSize]
      have := tFews_size l (d - 1) (f - 1 - s.size / 40) h
      have h0 : (0 : Int) ≤ (s.size : Int) / 40 := by omega
      omega
theorem tFews_size : ∀ (l : List Tm) (d f : Int), 0 ≤ tFews l d f → tFews l d f + tSizes l ≤ f
  | [], d, f, _ => by simp [tFews, tSizes]
  | a :: l, d, f, h => by
    rw [tFews] at h ⊢
    split at h
    · omega
    · rename_i hc
      rw [if_neg hc, tSizes]
      have h1 := tFew_size a d f (by omega)
      have h2 := tFews_size l d _ h
      omega
end
theorem tFews_snoc : ∀ (l : List Tm) (a : Tm) (d f : Int), 0 ≤ tFews l d f → tFews (l ++ [a]) d f = if tFew a d (tFews l d f) < 0 then -1 else tFew a d (tFews l d f)
  | [], a, d, f, _ => by rw [List.nil_append, tFews, tFews, tFews]
  | b :: l, a, d, f, h => by
    rw [tFews] at h
    split at h
    · omega
    · rename_i hc
      rw [List.cons_append, tFews, if_neg hc, tFews, if_neg hc, tFews_snoc l a d _ h]
theorem tFews_stop : ∀ (l m : List Tm) (d f : Int), tFews l d f = -1 → 0 ≤ f → tFews (l ++ m) d f = -1
  | [], m, d, f, h, hf => by simp [tFews] at h; omega
  | a :: l, m, d, f, h, hf => by
    rw [tFews] at h
    rw [List.cons_append, tFews]
    split at h
    · rename_i hc; rw [if_pos hc]
    · rename_i hc; rw [if_neg hc]; exact tFews_stop l m d _ h (by omega)
theorem tFew_ge (t : Tm) (d f : Int) (h : ¬ 0 ≤ tFew t d f) : tFew t d f = -1 := by
  have key : ∀ (l : List Tm) (d f : Int), 0 ≤ f → ¬ 0 ≤ tFews l d f → tFews l d f = -1 := fun l => by
    induction l with
    | nil => intro d f hf h; simp [tFews] at h; omega
    | cons a l ih =>
      intro d f hf h
      rw [tFews] at h ⊢
      split at h
      · rename_i hc; rw [if_pos hc]
      · rename_i hc; rw [if_neg hc]; exact ih d _ (by omega) h
  cases t with
  | mk k n s l =>
    rw [tFew] at h ⊢
    split at h
    · rename_i hc; rw [if_pos hc]
    · rename_i hc; rw [if_neg hc]; exact key l _ _ (by omega) h

end Go.Proofs.Ytjbomjnkjcafcaa
