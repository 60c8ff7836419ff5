/- A term that is made part by part. -/
import Derived.Test.YtnonfmaehfmigaaGreatDoorTmLaw
import Derived.Test.YtnonfmaehfmigaaGreatDoorText
namespace Go.Proofs.YtnonfmaehfmigaaGreatDoor
open Go.RowKit

theorem own_setN {w : World} {base n size : Nat} {e : TypeId} {v : Value} {xs : List Value} (h : w.ownsRow base e size v n xs) {g : Nat} (hg : g ∉ ownL v) (i : Nat) (u : Value) : (w.setCell ⟨g, i, none⟩ u).ownsRow base e size v n xs := by
  refine ⟨h.1, ?_⟩
  rcases h.2 with h2 | ⟨g2, cap, cur, he, hb2, hb, r⟩
  · exact .inl h2
  · refine .inr ⟨g2, cap, cur, he, hb2, (Below.heap_setCell _ _ _ _ ?_).trans hb, r⟩
    rintro rfl
    subst he
    exact hg (by simp [ownL, Value.ownBlock])
theorem own_lt {w : World} {base n size : Nat} {e : TypeId} {v : Value} {xs : List Value} (h : w.ownsRow base e size v n xs) {b : Nat} (hb : b ∈ ownL v) : base ≤ b ∧ b < w.heap.size := by
  unfold ownL at hb
  simp at hb
  exact h.lt b hb
theorem own_zeroN {w : World} {base n c size : Nat} {e : TypeId} {xs : List Value} (h : w.ownsRow base e size (.slice none n c) n xs) : c = 0 := by
  rcases h.2 with ⟨h2, _⟩ | ⟨g2, cap, cur, he, _⟩
  · injection h2
  · injection he with he; cases he
theorem own_keepL {w w' : World} {L : List Nat} {base n size c : Nat} {e : TypeId} {A : Option Addr} {xs : List Value} (h : w.ownsRow base e size (.slice A n c) n xs) (k : Keeps w w' L) (hL : ∀ b ∈ L, b ∉ ownL (.slice A n c)) : w'.ownsRow base e size (.slice A n c) n xs := by
  refine ⟨h.1, ?_⟩
  rcases h.2 with h2 | ⟨g, cap, cur, he, hb, hg, r⟩
  · exact .inl h2
  · refine .inr ⟨g, cap, cur, he, hb, (k.block g (Array.getElem?_eq_some_iff.1 hg).1 (fun hm => hL g hm ?_)).trans hg, r⟩
    rw [he]
    simp [ownL, Value.ownBlock]
/-- What stands while a term is made: blocks that stay (F), the term's block (g), its parts so far. -/
structure TSt (tg : TypeId) (S0 : Nat → Prop) (w wr : World) (L : List Nat) (F : List (Nat × TypeId × Array Value)) (g : Nat) (k n : Int) (s : ByteArray) (l : List Tm) (vs : List TV) (A : Option Addr) (j c : Nat) : Prop where
  fix : ∀ x ∈ F, Blk wr x.1 x.2.1 x.2.2 ∧ x.1 ∉ ownL (.slice A j c) ∧ x.1 ≠ g
  out : Blk wr g tg #[.int .i64 k, .int .i64 n, .string s, .slice A j c]
  row : wr.ownsRow w.heap.size tg 4 (.slice A j c) j (vs.flatMap tvE)
  trs : Trs wr (fun b => S0 b ∧ b ≠ g ∧ (∀ x ∈ F, b ≠ x.1) ∧ b ∉ ownL (.slice A j c)) l vs
  len : l.length = j
  keep : Keeps w wr L
  low : w.heap.size ≤ g ∧ g ∉ ownL (.slice A j c) ∧ ∀ b, w.heap.size ≤ b → S0 b
  sz : s.size ≤ 9223372036854775807
def TDone (L : List Nat) (S0 : Nat → Prop) (w : World) (t : Tm) (e : Ending) (w' : World) : Prop := ∃ v, e = .returned (tvV v) ∧ Tr w' S0 t v ∧ Keeps w w' L

section
variable {tg : TypeId} {S0 : Nat → Prop} {w wr : World} {L : List Nat} {F : List (Nat × TypeId × Array Value)} {g : Nat} {k n : Int} {s : ByteArray} {l : List Tm} {vs : List TV} {A : Option Addr} {j c : Nat}
theorem TSt.start (hF : ∀ x ∈ F, Blk wr x.1 x.2.1 x.2.2 ∧ x.1 ≠ g) (out : Blk wr g tg #[.int .i64 k, .int .i64 n, .string s, .slice none 0 0]) (keep : Keeps w wr L) (low : w.heap.size ≤ g) (hS : ∀ b, w.heap.size ≤ b → S0 b) (sz : s.size ≤ 9223372036854775807) : TSt tg S0 w wr L F g k n s [] [] none 0 0 :=
  ⟨fun x hx => ⟨(hF x hx).1, by simp [ownL, Value.ownBlock], (hF x hx).2⟩, out, World.ownsRow_nil _ _ _ _, Trs.nil, rfl, keep, ⟨low, by simp [ownL, Value.ownBlock], hS⟩, sz⟩
theorem TSt.keep0 (st : TSt tg S0 w wr L F g k n s l vs A j c) {W : World} (kk : Keeps wr W []) : TSt tg S0 w W L F g k n s l vs A j c :=
  ⟨fun x hx => ⟨(st.fix x hx).1.keep kk (by simp), (st.fix x hx).2⟩, st.out.keep kk (by simp), own_keep0 st.row kk, st.trs.keep kk, st.len, st.keep.trans (kk.to_ L), st.low, st.sz⟩
/-- Blocks of L turn. -/
theorem TSt.keepL (st : TSt tg S0 w wr L F g k n s l vs A j c) {W : World} (kk : Keeps wr W L) (h1 : ∀ b ∈ L, b < w.heap.size) (h2 : ∀ x ∈ F, x.1 ∉ L) (h3 : ∀ b ∈ L, ¬ S0 b) : TSt tg S0 w W L F g k n s l vs A j c :=
  ⟨fun x hx => ⟨(st.fix x hx).1.keep kk (h2 x hx), (st.fix x hx).2⟩, st.out.keep kk (fun h => by have := h1 _ h; have := st.low.1; omega), own_keepL st.row kk (fun b hb hm => by have := h1 b hb; have := (own_lt st.row hm).1; omega), st.trs.keepL kk (fun b hb h => h3 b hb h.1), st.len, st.keep.trans kk, st.low, st.sz⟩
/-- A part of what is new. -/
theorem TSt.fresh (st : TSt tg S0 w wr L F g k n s l vs A j c) {W : World} {t : Tm} {v : TV} (h : Tr W (fun b => wr.heap.size ≤ b) t v) : Tr W (fun b => S0 b ∧ b ≠ g ∧ (∀ x ∈ F, b ≠ x.1) ∧ b ∉ ownL (.slice A j c)) t v := by
  refine h.mono fun b hb => ⟨st.low.2.2 b (Nat.le_trans st.keep.size hb), fun e => ?_, fun x hx e => ?_, fun hm => ?_⟩
  · have := st.out.lt; omega
  · have := (st.fix x hx).1.lt; omega
  · have := (own_lt st.row hm).2; omega
theorem TSt.step (st0 : TSt tg S0 w wr L F g k n s l vs A j c) {W W2 : World} (kk : Keeps wr W []) {t : Tm} {v : TV} (ht : Tr W (fun b => S0 b ∧ b ≠ g ∧ (∀ x ∈ F, b ≠ x.1) ∧ b ∉ ownL (.slice A j c)) t v) {A' : Option Addr} {c' : Nat}
    (hown : W2.ownsRow w.heap.size tg 4 (.slice A' (j + 1) c') (j + 1) (vs.flatMap tvE ++ tvE v)) (hg : W.grownBy W2 (Value.slice A j c).ownBlock)
    (hat : (Value.slice A' (j + 1) c').ownBlock = (Value.slice A j c).ownBlock ∨ (Value.slice A' (j + 1) c').ownBlock = some W.heap.size) :
    TSt tg S0 w (W2.setCell ⟨g, 3, none⟩ (.slice A' (j + 1) c')) L F g k n s (l ++ [t]) (vs ++ [v]) A' (j + 1) c' := by
  have st := st0.keep0 kk
  have hno : ∀ b, b < W.heap.size → b ∉ ownL (.slice A j c) → b ∉ ownL (.slice A' (j + 1) c') := fun b hb hn hm => by
    unfold ownL at hn hm
    simp only [Option.mem_toList] at hn hm
    rcases hat with h | h
    · rw [h] at hm; exact hn hm
    · rw [h] at hm; simp at hm; omega
  have hrow : ∀ b, b ∉ ownL (.slice A j c) → some b ≠ (Value.slice A j c).ownBlock := fun b hn e => hn (by unfold ownL; rw [← e]; simp)
  have kg : Keeps W W2 (ownL (.slice A j c)) := Keeps.ofGrown hg
  have ks : Keeps W2 (W2.setCell ⟨g, 3, none⟩ (.slice A' (j + 1) c')) [g] := (Keeps.refl W2 [g]).setCell (.inl (by simp)) _
  have hgn := hno g st.out.lt st.low.2.1
  have og := st.out.grown hg (hrow g st.low.2.1)
  have tr2 : Trs (W2.setCell ⟨g, 3, none⟩ (.slice A' (j + 1) c')) (fun b => (S0 b ∧ b ≠ g ∧ (∀ x ∈ F, b ≠ x.1) ∧ b ∉ ownL (.slice A j c)) ∧ b < W.heap.size) l vs :=
    (st.trs.here.keepL kg (fun b hb h => h.1.2.2.2 hb)).keepL ks (fun b hb h => h.1.2.1 (by simpa using hb))
  have tr3 : Tr (W2.setCell ⟨g, 3, none⟩ (.slice A' (j + 1) c')) (fun b => (S0 b ∧ b ≠ g ∧ (∀ x ∈ F, b ≠ x.1) ∧ b ∉ ownL (.slice A j c)) ∧ b < W.heap.size) t v :=
    (ht.here.keepL kg (fun b hb h => h.1.2.2.2 hb)).keepL ks (fun b hb h => h.1.2.1 (by simpa using hb))
  refine ⟨fun x hx => ?_, by have := og.set_ 3 (.slice A' (j + 1) c'); simpa using this, ?_, (tr2.snoc tr3).mono fun b hb => ⟨hb.1.1, hb.1.2.1, hb.1.2.2.1, hno b hb.2 hb.1.2.2.2⟩, by simp [st.len], (st.keep.app st.row (Nat.le_refl _) hg).setCell (.inr st.low.1) _, ⟨st.low.1, hgn, st.low.2.2⟩, st.sz⟩
  · obtain ⟨f1, f2, f3⟩ := st.fix x hx
    exact ⟨(f1.grown hg (hrow _ f2)).far f3 _, hno _ f1.lt f2, f3⟩
  · rw [List.flatMap_append, show ([v] : List TV).flatMap tvE = tvE v by simp]
    exact own_setN hown hgn _ _
theorem TSt.done (st : TSt tg S0 w wr L F g k n s l vs A j c) (hj : j ≤ 9223372036854775807) : Tr wr (fun b => S0 b ∧ b ≠ g ∧ ∀ x ∈ F, b ≠ x.1) (.mk k n s l) ⟨k, n, s, A, j, c⟩ := by
  have h := st.len
  subst h
  refine .mk k n s l A c vs st.trs.len (Rd.of_own st.row) (fun b off e hne => ?_) (fun e => by subst e; exact own_zeroN st.row) ⟨st.sz, hj⟩ (fun j t v h1 h2 => (st.trs.at_ j t v h1 h2).mono fun b hb => ⟨hb.1, hb.2.1, hb.2.2.1⟩)
  subst e
  have hm : b ∈ ownL (.slice (some ⟨b, off, none⟩) l.length c) := by simp [ownL, Value.ownBlock]
  exact ⟨st.low.2.2 b (own_lt st.row hm).1, fun e => st.low.2.1 (by rw [← e]; exact hm), fun x hx e => (st.fix x hx).2.1 (by rw [← e]; exact hm)⟩
end
/-- The result's block is written at the end. -/
theorem Tr.end4 {w wr : World} {S0 : Nat → Prop} {t : Tm} {v : TV} {rb : Nat} (h : Tr wr (fun b => S0 b ∧ b ≠ rb) t v) (v0 v1 v2 v3 : Value) {L : List Nat} (hk : Keeps w wr L) (hb : w.heap.size ≤ rb) :
    TDone L S0 w t (.returned (tvV v)) ((((wr.setCell ⟨rb, 0, none⟩ v0).setCell ⟨rb, 1, none⟩ v1).setCell ⟨rb, 2, none⟩ v2).setCell ⟨rb, 3, none⟩ v3) := by
  have ks : Keeps wr ((((wr.setCell ⟨rb, 0, none⟩ v0).setCell ⟨rb, 1, none⟩ v1).setCell ⟨rb, 2, none⟩ v2).setCell ⟨rb, 3, none⟩ v3) [rb] := (((((Keeps.refl wr [rb]).setCell (.inl (by simp)) _).setCell (.inl (by simp)) _).setCell (.inl (by simp)) _).setCell (.inl (by simp)) _)
  exact ⟨v, rfl, (h.keepL ks (fun b hb h => h.2 (by simpa using hb))).mono fun b hb => hb.1, ((((hk.setCell (.inr hb) _).setCell (.inr hb) _).setCell (.inr hb) _).setCell (.inr hb) _)⟩
theorem el_pterm : ElemT Tryz.prog 38 40 4 := elemT_of (b := 56) (z := .agg #[.int .i64 0, .int .i64 0, .string ⟨#[]⟩, .slice none 0 0]) Tryz.underlying38 (by kernel_rfl) (by omega) rfl (by omega)
theorem el_rterm : ElemT Tryz.prog 22 24 4 := elemT_of (b := 56) (z := .agg #[.int .i64 0, .int .i64 0, .string ⟨#[]⟩, .slice none 0 0]) Tryz.underlying22 (by kernel_rfl) (by omega) rfl (by omega)
end Go.Proofs.YtnonfmaehfmigaaGreatDoor
