/- The program's reader: all terms. -/
import Derived.Test.YtnonfmaehfmigaaGreatDoorTmTerm
namespace Go.Proofs.YtnonfmaehfmigaaGreatDoor
open Go.RowKit

theorem pTerm_len {num : Num} (hn : NumOk num) (f : Nat) (l : Txt) (x : Tm × Txt) (h : pTerm num f l = some x) : x.2.length ≤ l.length := by
  have := pTerm_snd hn f l x.1 x.2 h
  rw [this, List.length_append]
  omega
def moreR (p : Txt → Option (Tm × Txt)) (l : Txt) : Option (List Tm × Txt) := (p l).bind fun x => (pMore p (x.2.length + 1) x.2).bind fun y => some (x.1 :: y.1, y.2)
def strR (nm : Txt) (r : Option (List Tm × Txt)) : Option (Tm × Txt) := r.bind fun y => if y.2.head? = some 41 then some (.mk 2 0 (stB nm) y.1, y.2.tail) else none
theorem pTerm_str {num : Num} {f : Nat} {l : Txt} (h1 : l.head? ≠ some 88) (h2 : l.head? ≠ some 91) (h3 : l.takeWhile isAl ≠ []) (h4 : (l.dropWhile isAl).head? = some 40) : pTerm num (f + 1) l = strR (l.takeWhile isAl) (moreR (pTerm num f) (l.dropWhile isAl).tail) := by
  rw [pTerm, if_neg h1, if_neg h2, if_neg h3, if_pos h4, strR, moreR]
  cases pTerm num f (l.dropWhile isAl).tail with
  | none => rfl
  | some x =>
    simp only [Option.bind_some]
    cases pMore (pTerm num f) (x.2.length + 1) x.2 with
    | none => rfl
    | some y => rfl
/-- How far the loop over parts has come. -/
structure MoreSt (p : Txt → Option (Tm × Txt)) (R2 : Option (List Tm × Txt)) (N : Nat) (args : List Tm) (j : Nat) (o : Option Txt) : Prop where
  few : j ≤ 10000
  on : ∀ s, o = some s → j + s.length ≤ 10000 ∧ s.length ≤ N ∧ ∃ n, s.length < n ∧ (pMore p n s).map (fun y => (args ++ y.1, y.2)) = R2
  bad : o = none → R2 = none
theorem MoreSt.start {p : Txt → Option (Tm × Txt)} {N : Nat} {l : Txt} {t : Tm} (hl : 1 + l.length ≤ 10000) (hN : l.length ≤ N) (hp : ∀ l x, p l = some x → x.2.length ≤ l.length) (ht : ∀ x, p l = some x → t = x.1) : MoreSt p (moreR p l) N ([] ++ [t]) (0 + 1) ((p l).map (·.2)) := by
  refine ⟨by omega, fun s hs => ?_, fun h => ?_⟩
  · cases hx : p l with
    | none => rw [hx] at hs; cases hs
    | some x =>
      rw [hx] at hs
      simp only [Option.map_some, Option.some.injEq] at hs
      subst hs
      have h1 := hp l x hx
      refine ⟨by omega, by omega, x.2.length + 1, by omega, ?_⟩
      rw [ht x hx, moreR, hx]
      simp only [Option.bind_some]
      cases pMore p (x.2.length + 1) x.2 <;> rfl
  · cases hx : p l with
    | none => rw [moreR, hx]; rfl
    | some x => rw [hx] at h; cases h
theorem MoreSt.step {p : Txt → Option (Tm × Txt)} {R2 : Option (List Tm × Txt)} {N : Nat} {args : List Tm} {j : Nat} {s : Txt} {t : Tm} (h : MoreSt p R2 N args j (some s)) (hc : s.head? = some 44) (hp : ∀ l x, p l = some x → x.2.length ≤ l.length) (ht : ∀ x, p s.tail = some x → t = x.1) : MoreSt p R2 N (args ++ [t]) (j + 1) ((p s.tail).map (·.2)) := by
  obtain ⟨h1, h2, n, h3, h4⟩ := h.on s rfl
  have hs := head_tail hc
  have hlen : s.length = s.tail.length + 1 := by conv => lhs; rw [hs]; rw [List.length_cons]
  cases n with
  | zero => omega
  | succ n =>
    rw [pMore, if_pos hc] at h4
    refine ⟨by omega, fun s' hs' => ?_, fun hn => ?_⟩
    · cases hx : p s.tail with
      | none => rw [hx] at hs'; cases hs'
      | some x =>
        rw [hx] at hs' h4
        simp only [Option.map_some, Option.some.injEq, Option.bind_some] at hs' h4
        subst hs'
        have h5 := hp _ x hx
        refine ⟨by omega, by omega, n, by omega, ?_⟩
        rw [← h4, ht x hx]
        cases pMore p n x.2 with
        | none => rfl
        | some y => simp
    · cases hx : p s.tail with
      | none => rw [hx] at h4; exact h4.symm
      | some x => rw [hx] at hn; cases hn
theorem MoreSt.fin {p : Txt → Option (Tm × Txt)} {R2 : Option (List Tm × Txt)} {N : Nat} {args : List Tm} {j : Nat} {o : Option Txt} (h : MoreSt p R2 N args j o) (hc : ∀ s, o = some s → s.head? ≠ some 44) (nm : Txt) : (strR nm R2).map (·.2) = wantO 41 o ∧ ∀ z, strR nm R2 = some z → Tm.mk 2 0 (stB nm) args = z.1 := by
  cases o with
  | none => rw [h.bad rfl]; exact ⟨rfl, fun z hz => by cases hz⟩
  | some s =>
    obtain ⟨_, _, n, h3, h4⟩ := h.on s rfl
    cases n with
    | zero => omega
    | succ n =>
      rw [pMore, if_neg (hc s rfl)] at h4
      simp only [Option.map_some, List.append_nil] at h4
      rw [← h4]
      unfold strR wantO
      simp only [Option.bind_some]
      refine ⟨by split <;> rfl, fun z hz => ?_⟩
      split at hz
      · cases hz; rfl
      · cases hz
/-- What is left to be read. -/
def rdMu (rb : Nat) (w : World) : Nat := match w.cell? ⟨rb, 1, none⟩, w.cell? ⟨rb, 0, none⟩ with
  | some (.bool false), some (.string s) => s.size + 1
  | _, _ => 0
end Go.Proofs.YtnonfmaehfmigaaGreatDoor
