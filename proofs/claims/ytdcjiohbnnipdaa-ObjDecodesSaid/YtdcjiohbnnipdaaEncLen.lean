/- How long an object's bytes are. -/
import Derived.Test.YtdcjiohbnnipdaaRound
namespace Go.Proofs.Ytdcjiohbnnipdaa
open Go.RowKit

theorem flat_le {α : Type} {enc : α → List Int} {M : Nat} : ∀ l : List α, (∀ x ∈ l, (enc x).length ≤ M) → (l.flatMap enc).length ≤ l.length * M
  | [], _ => by simp
  | x :: l, h => by
    rw [List.flatMap_cons, List.length_append, List.length_cons, Nat.succ_mul]
    have h1 := h x (by simp)
    have h2 := flat_le l (fun y hy => h y (by simp [hy]))
    omega
theorem insB_le (i : LIns) : (insB i).length ≤ 9 := by
  have h1 : ((List.range (kindsOf i.op).length).flatMap (argB i)).length ≤ (List.range (kindsOf i.op).length).length * 2 := flat_le _ (fun k _ => by
    rw [argB, be_len]
    exact (szOf_le _).2)
  have h2 := kinds_few i.op
  rw [List.length_range] at h1
  rw [insB, List.length_append, be_len]
  omega
theorem enc_len {o : LObj} (h : checkE o = 0) : (encB o).length ≤ 65536 := by
  obtain ⟨r1, r2, r3, _⟩ := enc_ranges h
  have hb := (checkE_range h).1
  simp only [bigO, bigB_or, Bool.or_eq_false_iff, decide_eq_false_iff_not] at hb
  have h1 : (o.atoms.flatMap nameB).length ≤ o.atoms.length * 33 := flat_le _ (fun s hs => by have := r1 s hs; rw [nameB_len]; omega)
  have h2 : (o.funs.flatMap funB).length ≤ o.funs.length * 34 := flat_le _ (fun s hs => by have := r2 s hs; rw [funB, List.length_append, nameB_len, be_len]; omega)
  have h3 : (o.preds.flatMap predB).length ≤ o.preds.length * 36 := flat_le _ (fun s hs => by have := r3 s hs; rw [predB, List.length_append, List.length_append, nameB_len, be_len, be_len]; omega)
  have h4 : (o.code.flatMap insB).length ≤ o.code.length * 9 := flat_le _ (fun i _ => insB_le i)
  rw [encB, bodyB, headB, sumB]
  simp only [List.length_append, be_len, List.length_cons, List.length_nil]
  omega
end Go.Proofs.Ytdcjiohbnnipdaa
