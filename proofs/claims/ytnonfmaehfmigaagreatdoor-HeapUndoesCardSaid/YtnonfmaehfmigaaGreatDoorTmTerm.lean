/- The program's reader: terms. -/
import Derived.Test.YtnonfmaehfmigaaGreatDoorTmNum
import Derived.Test.YtnonfmaehfmigaaGreatDoorTmMk
namespace Go.Proofs.YtnonfmaehfmigaaGreatDoor
open Go.RowKit

def wantO (c : UInt8) (o : Option Txt) : Option Txt := o.bind fun l => if l.head? = some c then some l.tail else none
theorem Tr.leaf (w : World) (S : Nat → Prop) (k n : Int) (s : ByteArray) (hs : s.size ≤ 9223372036854775807) : Tr w S (.mk k n s []) ⟨k, n, s, none, 0, 0⟩ :=
  .mk k n s [] none 0 [] rfl Rd.nil (fun b off e => by cases e) (fun _ => rfl) ⟨hs, by simp⟩ (fun j t v h => by simp at h)
/-- Setting a new block's cells. -/
theorem keeps_set4 {w : World} {L : List Nat} {wr : World} (k : Keeps w wr L) {g : Nat} (hg : w.heap.size ≤ g) (v0 v1 v2 v3 : Value) : Keeps w ((((wr.setCell ⟨g, 0, none⟩ v0).setCell ⟨g, 1, none⟩ v1).setCell ⟨g, 2, none⟩ v2).setCell ⟨g, 3, none⟩ v3) L :=
  (((k.setCell (.inr hg) _).setCell (.inr hg) _).setCell (.inr hg) _).setCell (.inr hg) _
theorem keeps_self4 (wr : World) (g : Nat) (v0 v1 v2 v3 : Value) : Keeps wr ((((wr.setCell ⟨g, 0, none⟩ v0).setCell ⟨g, 1, none⟩ v1).setCell ⟨g, 2, none⟩ v2).setCell ⟨g, 3, none⟩ v3) [g] :=
  ((((Keeps.refl wr [g]).setCell (.inl (by simp)) _).setCell (.inl (by simp)) _).setCell (.inl (by simp)) _).setCell (.inl (by simp)) _
def listR (p : Txt → Option (Tm × Txt)) (l : Txt) : Option (Tm × Txt) := (p l).bind fun x => if x.2.head? = some 124 then (p x.2.tail).bind fun y => if y.2.head? = some 93 then some (.mk 3 0 ⟨#[]⟩ [x.1, y.1], y.2.tail) else none else none
theorem listR_state (p : Txt → Option (Tm × Txt)) (l : Txt) : (listR p l).map (·.2) = wantO 93 (((wantO 124 ((p l).map (·.2))).bind p).map (·.2)) := by
  unfold listR wantO
  cases p l with
  | none => rfl
  | some x =>
    simp only [Option.bind_some, Option.map_some]
    split
    · simp only [Option.bind_some]
      cases p x.2.tail with
      | none => rfl
      | some y =>
        simp only [Option.bind_some, Option.map_some]
        split <;> rfl
    · rfl
theorem listR_some {p : Txt → Option (Tm × Txt)} {l : Txt} {z : Tm × Txt} (h : listR p l = some z) : ∃ x y, p l = some x ∧ (wantO 124 ((p l).map (·.2))).bind p = some y ∧ z.1 = .mk 3 0 ⟨#[]⟩ [x.1, y.1] := by
  unfold listR at h
  unfold wantO
  cases hx : p l with
  | none => rw [hx] at h; cases h
  | some x =>
    rw [hx] at h
    simp only [Option.bind_some, Option.map_some] at h ⊢
    split at h
    · rename_i h1
      rw [if_pos h1]
      simp only [Option.bind_some]
      cases hy : p x.2.tail with
      | none => rw [hy] at h; cases h
      | some y =>
        rw [hy] at h
        simp only [Option.bind_some] at h
        split at h
        · cases h; exact ⟨x, y, rfl, rfl, rfl⟩
        · cases h
    · cases h
theorem pair_tr {w4 : World} {S : Nat → Prop} {a b : Tm} {va vb : TV} (ha : Tr w4 S a va) (hb : Tr w4 S b vb) (hS : S w4.heap.size) (t : TypeId) :
    Tr (w4.alloc (.cells #[.int .i64 va.k, .int .i64 va.n, .string va.s, .slice va.A va.len va.c, .int .i64 vb.k, .int .i64 vb.n, .string vb.s, .slice vb.A vb.len vb.c] t)) S (.mk 3 0 ⟨#[]⟩ [a, b]) ⟨3, 0, ⟨#[]⟩, some ⟨w4.heap.size, 0, none⟩, 2, 2⟩ := by
  have k := (Keeps.refl w4 []).alloc (.cells #[.int .i64 va.k, .int .i64 va.n, .string va.s, .slice va.A va.len va.c, .int .i64 vb.k, .int .i64 vb.n, .string vb.s, .slice vb.A vb.len vb.c] t)
  refine .mk 3 0 ⟨#[]⟩ [a, b] (some ⟨w4.heap.size, 0, none⟩) 2 [va, vb] rfl (by have := Rd.of_blk (Blk.new w4 t #[.int .i64 va.k, .int .i64 va.n, .string va.s, .slice va.A va.len va.c, .int .i64 vb.k, .int .i64 vb.n, .string vb.s, .slice vb.A vb.len vb.c]); simpa [tvE] using this) (fun b off e _ => by cases e; exact hS) (fun e => by cases e) ⟨by decide, by simp⟩ (fun j t v h1 h2 => ?_)
  match j, h1, h2 with
  | 0, h1, h2 => simp at h1 h2; subst h1 h2; exact ha.keep k
  | 1, h1, h2 => simp at h1 h2; subst h1 h2; exact hb.keep k
  | j + 2, h1, _ => simp at h1

end Go.Proofs.YtnonfmaehfmigaaGreatDoor
