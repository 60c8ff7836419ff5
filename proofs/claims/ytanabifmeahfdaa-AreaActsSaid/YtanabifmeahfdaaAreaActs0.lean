/- What holds in a round of AreaActs. -/
import Derived.Test.YtanabifmeahfdaaAreaT
namespace Go.Proofs.Ytanabifmeahfdaa
open Go.RowKit

/-- What the law is told of a list of acts that came in. -/
structure Act4 where
  kind : Int
  at_ : Int
  cell : Int
  raw : Bool
def Acts (w : World) (B : Nat) (A : Option Addr) (ops : List Act4) : Prop :=
  ∀ k, k < ops.length → ∃ b off o, A = some ⟨b, off, none⟩ ∧ b < B ∧ ops[k]? = some o ∧ w.cell? ⟨b, off + k * 4, none⟩ = some (.int .i64 o.kind) ∧ w.cell? ⟨b, off + k * 4 + 1, none⟩ = some (.int .i64 o.at_) ∧
    w.cell? ⟨b, off + k * 4 + 2, none⟩ = some (.int .u64 o.cell) ∧ w.cell? ⟨b, off + k * 4 + 3, none⟩ = some (.bool o.raw) ∧ (-9223372036854775808 ≤ o.kind ∧ o.kind ≤ 9223372036854775807) ∧ (-9223372036854775808 ≤ o.at_ ∧ o.at_ ≤ 9223372036854775807) ∧ 0 ≤ o.cell ∧ o.cell < 18446744073709551616

/-- What stands in a round: the two Areas alike, the Raw, the act's box. -/
structure St (w W : World) (g h qb rb ob n : Nat) (o : Act4) (l : List Int) : Prop where
  ar : Ar W w.heap.size g h l n
  ra : RA W w.heap.size rb l n
  raw : Blk W qb 47 #[.pointer (some ⟨g, 0, none⟩)]
  op : Blk W ob 53 #[.int .i64 o.kind, .int .i64 o.at_, .int .u64 o.cell, .bool o.raw]
  bel : Below w.heap.size w W
  low : w.heap.size ≤ qb ∧ w.heap.size ≤ ob
variable {w W W' : World} {g h qb rb ob n : Nat} {o : Act4} {l l' : List Int}
theorem St.keep0 (s : St w W g h qb rb ob n o l) (k : Keeps W W' []) : St w W' g h qb rb ob n o l :=
  ⟨s.ar.keep k (by simp) (by simp), s.ra.keep0 k, s.raw.keep k (by simp), s.op.keep k (by simp), Keeps.below s.bel k (by simp) (by have := s.bel.size; exact this) , s.low⟩
theorem St.drewN (s : St w W g h qb rb ob n o l) (q : Nat) : St w (W.drewN q) g h qb rb ob n o l := s.keep0 (Keeps.drewN (Keeps.refl W []) q)
theorem St.size (s : St w W g h qb rb ob n o l) : w.heap.size ≤ W.heap.size := s.bel.size
theorem St.ne (s : St w W g h qb rb ob n o l) : qb ∉ [g, h, rb] ∧ ob ∉ [g, h, rb] ∧ rb ∉ [g, h] ∧ g ∉ [rb] ∧ h ∉ [rb] := by
  obtain ⟨cap, hg, ho, _⟩ := s.ar.blk
  obtain ⟨hh, hc, _⟩ := own_block ho
  obtain ⟨A, c, hr, _⟩ := s.ra.blk
  have q1 := s.raw.ne_ hg (by decide)
  have q2 := s.raw.ne_ hc (by decide)
  have q3 := s.raw.ne_ hr (by decide)
  have o1 := s.op.ne_ hg (by decide)
  have o2 := s.op.ne_ hc (by decide)
  have o3 := s.op.ne_ hr (by decide)
  have r1 := hr.ne_ hg (by decide)
  have r2 := hr.ne_ hc (by decide)
  refine ⟨?_, ?_, ?_, ?_, ?_⟩ <;> simp only [List.mem_cons, List.not_mem_nil, or_false, not_or] <;> omega
theorem RA.cellIs {W1 W2 : World} {base r : Nat} {A : Option Addr} {c : Nat} {v : Value} (_ : RA W2 base r l n) (k : Keeps W1 W2 []) (h : Blk W1 r 51 #[.slice A l.length c, v]) : W2.cell? ⟨r, 0, none⟩ = some (.slice A l.length c) := (h.keep k (by simp)).cell 0
theorem St.arAt (s : St w W g h qb rb ob n o l) (k : Keeps W W' []) : Ar W' w.heap.size g h l n := s.ar.keep k (by simp) (by simp)
theorem St.raAt (s : St w W g h qb rb ob n o l) (k : Keeps W W' []) : RA W' w.heap.size rb l n := s.ra.keep0 k
theorem St.arAfter {W1 W2 : World} (s : St w W g h qb rb ob n o l) (k : Keeps W W' []) (kR : Keeps W' W1 [rb]) (k1 : Keeps W1 W2 []) : Ar W2 w.heap.size g h l n :=
  ((s.arAt k).beside (s.raAt k) kR).keep k1 (by simp) (by simp)
theorem St.raAfter {W1 W2 : World} (s : St w W g h qb rb ob n o l) (k : Keeps W W' []) (kA : Keeps W' W1 [g, h]) (k1 : Keeps W1 W2 []) : RA W2 w.heap.size rb l n :=
  ((s.raAt k).beside (s.arAt k) kA).keep0 k1
theorem St.did (s : St w W g h qb rb ob n o l) (k : Keeps W W' [g, h, rb]) (ar : Ar W' w.heap.size g h l' n) (ra : RA W' w.heap.size rb l' n) : St w W' g h qb rb ob n o l' := by
  have hl := s.ar.lt.2.2.2
  refine ⟨ar, ra, s.raw.keep k s.ne.1, s.op.keep k s.ne.2.1, Keeps.below s.bel k ?_ s.bel.size, s.low⟩
  intro i hi
  simp at hi
  rcases hi with rfl | rfl | rfl
  · exact s.ar.low
  · exact hl
  · exact s.ra.low
theorem Keeps.to3 {a b : World} (k : Keeps a b []) : Keeps a b [g, h, rb] := k.more (by simp)
theorem Keeps.toA {a b : World} (k : Keeps a b [g, h]) : Keeps a b [g, h, rb] := k.more (by simp; omega)
theorem Keeps.toR {a b : World} (k : Keeps a b [rb]) : Keeps a b [g, h, rb] := k.more (by simp; omega)
/-- The Area's call, then the document's. -/
theorem St.didAR {W1 W2 W3 W4 : World} (s : St w W g h qb rb ob n o l) (k0 : Keeps W W' []) (ar : Ar W1 w.heap.size g h l' n) (kA : Keeps W' W1 [g, h]) (k1 : Keeps W1 W2 []) (ra : RA W3 w.heap.size rb l' n) (kR : Keeps W2 W3 [rb]) (k2 : Keeps W3 W4 []) : St w W4 g h qb rb ob n o l' :=
  s.did (k0.to3.trans (kA.toA.trans (k1.to3.trans (kR.toR.trans k2.to3)))) (((ar.keep k1 (by simp) (by simp)).beside (s.raAfter k0 kA k1) kR).keep k2 (by simp) (by simp)) (ra.keep0 k2)
/-- The document's call, then the Area's. -/
theorem St.didRA {W1 W2 W3 W4 : World} (s : St w W g h qb rb ob n o l) (k0 : Keeps W W' []) (ra : RA W1 w.heap.size rb l' n) (kR : Keeps W' W1 [rb]) (k1 : Keeps W1 W2 []) (ar : Ar W3 w.heap.size g h l' n) (kA : Keeps W2 W3 [g, h]) (k2 : Keeps W3 W4 []) : St w W4 g h qb rb ob n o l' :=
  s.did (k0.to3.trans (kR.toR.trans (k1.to3.trans (kA.toA.trans k2.to3)))) (ar.keep k2 (by simp) (by simp)) (((ra.keep0 k1).beside (s.arAfter k0 kR k1) kA).keep0 k2)
theorem Nums.at_ {K : IntKind} {A : Option Addr} (h : Nums K W W.heap.size A l) (k : Keeps W W' []) : Nums K W' W.heap.size A l := h.below (Keeps.below (Below.refl _ _) k (by simp) (Nat.le_refl _))
/-- What a region's loads of the act's box and of the Raw see. -/
def Seen (W : World) (qb ob g : Nat) (o : Act4) : Prop :=
  W.cell? ⟨ob, 1, none⟩ = some (.int .i64 o.at_) ∧ W.cell? ⟨ob, 2, none⟩ = some (.int .u64 o.cell) ∧ W.cell? ⟨qb, 0, none⟩ = some (.pointer (some ⟨g, 0, none⟩))
theorem St.seen (s : St w W g h qb rb ob n o l) (k : Keeps W W' [g, h, rb]) : Seen W' qb ob g o :=
  ⟨(s.op.keep k s.ne.2.1).cell 1, (s.op.keep k s.ne.2.1).cell 2, (s.raw.keep k s.ne.1).cell 0⟩
end Go.Proofs.Ytanabifmeahfdaa
