/- Objects out of bytes: what stands while one is read. Printed by gen_readobj.py. -/
import Derived.Test.YtdcjiohbnnipdaaReadH
namespace Go.Proofs.Ytdcjiohbnnipdaa
open Go.RowKit
attribute [local irreducible] takeR numR nameR insR kindsOf nameOf bigB checkE

/-- The reader at s; the result's block, the object's, the numbers' (hb); the four rows so far. -/
structure RoSt (w wr : World) (g B hb na nf np nc : Nat) (s : RdS) (A1 A2 A3 A4 : Option Addr) (n1 n2 n3 n4 c1 c2 c3 c4 : Nat) (l1 : List ByteArray) (l2 : List LFun) (l3 : List LPred) (l4 : List LIns) : Prop where
  rdr : RdrAt wr g B s
  low : B ≤ w.heap.size
  res : Blk wr w.heap.size 30 #[.slice none 0 0, .slice none 0 0, .slice none 0 0, .slice none 0 0]
  out : Blk wr (w.heap.size + 1) 30 #[.slice A1 n1 c1, .slice A2 n2 c2, .slice A3 n3 c3, .slice A4 n4 c4]
  hd : Blk wr hb 108 #[.int .i64 na, .int .i64 nf, .int .i64 np, .int .i64 nc]
  r1 : wr.ownsRow w.heap.size 9 1 (.slice A1 n1 c1) n1 (l1.flatMap strE)
  r2 : wr.ownsRow w.heap.size 114 2 (.slice A2 n2 c2) n2 (l2.flatMap funE)
  r3 : wr.ownsRow w.heap.size 115 3 (.slice A3 n3 c3) n3 (l3.flatMap predE)
  r4 : wr.ownsRow w.heap.size 117 5 (.slice A4 n4 c4) n4 (l4.flatMap insE)
  keep : Keeps w wr [g]
  hbl : w.heap.size ≤ hb
theorem RoSt.go {w wr : World} {g B hb na nf np nc : Nat} {s : RdS} {A1 A2 A3 A4 : Option Addr} {n1 n2 n3 n4 c1 c2 c3 c4 : Nat} {l1 : List ByteArray} {l2 : List LFun} {l3 : List LPred} {l4 : List LIns} (h : RoSt w wr g B hb na nf np nc s A1 A2 A3 A4 n1 n2 n3 n4 c1 c2 c3 c4 l1 l2 l3 l4) {W : World} (k : Keeps wr W []) : RoSt w W g B hb na nf np nc s A1 A2 A3 A4 n1 n2 n3 n4 c1 c2 c3 c4 l1 l2 l3 l4 :=
  ⟨h.rdr.keep0 k, h.low, h.res.keep k (by simp), h.out.keep k (by simp), h.hd.keep k (by simp), own_keep0 h.r1 k, own_keep0 h.r2 k, own_keep0 h.r3 k, own_keep0 h.r4 k, h.keep.trans (k.to_ _), h.hbl⟩
theorem RoSt.read {w wr : World} {g B hb na nf np nc : Nat} {s : RdS} {A1 A2 A3 A4 : Option Addr} {n1 n2 n3 n4 c1 c2 c3 c4 : Nat} {l1 : List ByteArray} {l2 : List LFun} {l3 : List LPred} {l4 : List LIns} (h : RoSt w wr g B hb na nf np nc s A1 A2 A3 A4 n1 n2 n3 n4 c1 c2 c3 c4 l1 l2 l3 l4) {W : World} {s' : RdS} (hr : RdrAt W g B s') (k : Keeps wr W [g]) : RoSt w W g B hb na nf np nc s' A1 A2 A3 A4 n1 n2 n3 n4 c1 c2 c3 c4 l1 l2 l3 l4 := by
  have h1 := hr.lt
  have h2 := h.low
  have h3 := h.hbl
  exact ⟨hr, h.low, h.res.keep k (by simp; omega), h.out.keep k (by simp; omega), h.hd.keep k (by simp; omega), own_keepS h.r1 k (by simp; omega), own_keepS h.r2 k (by simp; omega), own_keepS h.r3 k (by simp; omega), own_keepS h.r4 k (by simp; omega), h.keep.trans k, h.hbl⟩
theorem RoSt.set {w wr : World} {g B hb na nf np nc : Nat} {s : RdS} {A1 A2 A3 A4 : Option Addr} {n1 n2 n3 n4 c1 c2 c3 c4 : Nat} {l1 : List ByteArray} {l2 : List LFun} {l3 : List LPred} {l4 : List LIns} (h : RoSt w wr g B hb na nf np nc s A1 A2 A3 A4 n1 n2 n3 n4 c1 c2 c3 c4 l1 l2 l3 l4) (e : Int) : RoSt w (wr.setCell ⟨g, 1, none⟩ (.int .i64 e)) g B hb na nf np nc ⟨s.rest, e⟩ A1 A2 A3 A4 n1 n2 n3 n4 c1 c2 c3 c4 l1 l2 l3 l4 :=
  h.read (h.rdr.set e) ((Keeps.refl wr [g]).setCell (.inl (by simp)) _)
theorem RoSt.see1 {w wr : World} {g B hb na nf np nc : Nat} {s : RdS} {A1 A2 A3 A4 : Option Addr} {n1 n2 n3 n4 c1 c2 c3 c4 : Nat} {l1 : List ByteArray} {l2 : List LFun} {l3 : List LPred} {l4 : List LIns} (h : RoSt w wr g B hb na nf np nc s A1 A2 A3 A4 n1 n2 n3 n4 c1 c2 c3 c4 l1 l2 l3 l4) {W' : World} (kk : Keeps wr W' (ownL (.slice A1 n1 c1))) : W'.frozen? ⟨w.heap.size + 1, 0, none⟩ = false ∧ W'.cell? ⟨w.heap.size + 1, 0, none⟩ = some (.slice A1 n1 c1) :=
  ⟨(h.out.keep kk (own_outT h.r1 h.out (by decide))).frozen 0, (h.out.keep kk (own_outT h.r1 h.out (by decide))).cell 0⟩
theorem RoSt.step1 {w wr : World} {g B hb na nf np nc : Nat} {s : RdS} {A1 A2 A3 A4 : Option Addr} {n1 n2 n3 n4 c1 c2 c3 c4 : Nat} {l1 : List ByteArray} {l2 : List LFun} {l3 : List LPred} {l4 : List LIns} (s0 : RoSt w wr g B hb na nf np nc s A1 A2 A3 A4 n1 n2 n3 n4 c1 c2 c3 c4 l1 l2 l3 l4) {W W2 : World} (k : Keeps wr W []) {x : ByteArray} {A' : Option Addr} {c' : Nat}
    (hown : W2.ownsRow w.heap.size 9 1 (.slice A' (n1 + 1) c') (n1 + 1) (l1.flatMap strE ++ strE x)) (hg : W.grownBy W2 (Value.slice A1 n1 c1).ownBlock) : RoSt w (W2.setCell ⟨w.heap.size + 1, 0, none⟩ (.slice A' (n1 + 1) c')) g B hb na nf np nc s A' A2 A3 A4 (n1 + 1) n2 n3 n4 c' c2 c3 c4 (l1 ++ [x]) l2 l3 l4 := by
  have s := s0.go k
  have u := blk_far s.out s.r1 (by decide) hg
  have r := blk_far s.res s.r1 (by decide) hg
  have d := blk_far s.hd s.r1 (by decide) hg
  have hl := s.low
  have hb3 := s.hbl
  have kg := Keeps.ofGrown hg
  have rr := (s.rdr.keep kg (fun q hq => by
    unfold ownL at hq
    simp at hq
    have := (s.r1.lt q hq).1
    omega)).keep ((Keeps.refl W2 [w.heap.size + 1]).setCell (p := ⟨w.heap.size + 1, 0, none⟩) (.inl (by simp)) (.slice A' (n1 + 1) c')) (fun q hq => by simp at hq; omega)
  refine ⟨rr, hl, r.far (by simp) _, by have := u.set_ 0 (.slice A' (n1 + 1) c'); simpa using this, d.far (fun e => d.ne_ u (by decide) e) _, ?_, own_set (own_far s.r2 s.r1 (by decide) hg) u (by decide) _ _, own_set (own_far s.r3 s.r1 (by decide) hg) u (by decide) _ _, own_set (own_far s.r4 s.r1 (by decide) hg) u (by decide) _ _, ?_, hb3⟩
  · rw [List.flatMap_append, List.flatMap_singleton]
    exact own_set hown u (by decide) _ _
  · exact (s.keep.past kg (fun q hq => by
      unfold ownL at hq
      simp at hq
      exact .inr (s.r1.lt q hq).1)).setCell (.inr (by simp)) _
theorem RoSt.see2 {w wr : World} {g B hb na nf np nc : Nat} {s : RdS} {A1 A2 A3 A4 : Option Addr} {n1 n2 n3 n4 c1 c2 c3 c4 : Nat} {l1 : List ByteArray} {l2 : List LFun} {l3 : List LPred} {l4 : List LIns} (h : RoSt w wr g B hb na nf np nc s A1 A2 A3 A4 n1 n2 n3 n4 c1 c2 c3 c4 l1 l2 l3 l4) {W' : World} (kk : Keeps wr W' (ownL (.slice A2 n2 c2))) : W'.frozen? ⟨w.heap.size + 1, 1, none⟩ = false ∧ W'.cell? ⟨w.heap.size + 1, 1, none⟩ = some (.slice A2 n2 c2) :=
  ⟨(h.out.keep kk (own_outT h.r2 h.out (by decide))).frozen 1, (h.out.keep kk (own_outT h.r2 h.out (by decide))).cell 1⟩
theorem RoSt.step2 {w wr : World} {g B hb na nf np nc : Nat} {s : RdS} {A1 A2 A3 A4 : Option Addr} {n1 n2 n3 n4 c1 c2 c3 c4 : Nat} {l1 : List ByteArray} {l2 : List LFun} {l3 : List LPred} {l4 : List LIns} (s0 : RoSt w wr g B hb na nf np nc s A1 A2 A3 A4 n1 n2 n3 n4 c1 c2 c3 c4 l1 l2 l3 l4) {W W2 : World} (k : Keeps wr W []) {x : LFun} {A' : Option Addr} {c' : Nat}
    (hown : W2.ownsRow w.heap.size 114 2 (.slice A' (n2 + 1) c') (n2 + 1) (l2.flatMap funE ++ funE x)) (hg : W.grownBy W2 (Value.slice A2 n2 c2).ownBlock) : RoSt w (W2.setCell ⟨w.heap.size + 1, 1, none⟩ (.slice A' (n2 + 1) c')) g B hb na nf np nc s A1 A' A3 A4 n1 (n2 + 1) n3 n4 c1 c' c3 c4 l1 (l2 ++ [x]) l3 l4 := by
  have s := s0.go k
  have u := blk_far s.out s.r2 (by decide) hg
  have r := blk_far s.res s.r2 (by decide) hg
  have d := blk_far s.hd s.r2 (by decide) hg
  have hl := s.low
  have hb3 := s.hbl
  have kg := Keeps.ofGrown hg
  have rr := (s.rdr.keep kg (fun q hq => by
    unfold ownL at hq
    simp at hq
    have := (s.r2.lt q hq).1
    omega)).keep ((Keeps.refl W2 [w.heap.size + 1]).setCell (p := ⟨w.heap.size + 1, 1, none⟩) (.inl (by simp)) (.slice A' (n2 + 1) c')) (fun q hq => by simp at hq; omega)
  refine ⟨rr, hl, r.far (by simp) _, by have := u.set_ 1 (.slice A' (n2 + 1) c'); simpa using this, d.far (fun e => d.ne_ u (by decide) e) _, own_set (own_far s.r1 s.r2 (by decide) hg) u (by decide) _ _, ?_, own_set (own_far s.r3 s.r2 (by decide) hg) u (by decide) _ _, own_set (own_far s.r4 s.r2 (by decide) hg) u (by decide) _ _, ?_, hb3⟩
  · rw [List.flatMap_append, List.flatMap_singleton]
    exact own_set hown u (by decide) _ _
  · exact (s.keep.past kg (fun q hq => by
      unfold ownL at hq
      simp at hq
      exact .inr (s.r2.lt q hq).1)).setCell (.inr (by simp)) _
theorem RoSt.see3 {w wr : World} {g B hb na nf np nc : Nat} {s : RdS} {A1 A2 A3 A4 : Option Addr} {n1 n2 n3 n4 c1 c2 c3 c4 : Nat} {l1 : List ByteArray} {l2 : List LFun} {l3 : List LPred} {l4 : List LIns} (h : RoSt w wr g B hb na nf np nc s A1 A2 A3 A4 n1 n2 n3 n4 c1 c2 c3 c4 l1 l2 l3 l4) {W' : World} (kk : Keeps wr W' (ownL (.slice A3 n3 c3))) : W'.frozen? ⟨w.heap.size + 1, 2, none⟩ = false ∧ W'.cell? ⟨w.heap.size + 1, 2, none⟩ = some (.slice A3 n3 c3) :=
  ⟨(h.out.keep kk (own_outT h.r3 h.out (by decide))).frozen 2, (h.out.keep kk (own_outT h.r3 h.out (by decide))).cell 2⟩
theorem RoSt.step3 {w wr : World} {g B hb na nf np nc : Nat} {s : RdS} {A1 A2 A3 A4 : Option Addr} {n1 n2 n3 n4 c1 c2 c3 c4 : Nat} {l1 : List ByteArray} {l2 : List LFun} {l3 : List LPred} {l4 : List LIns} (s0 : RoSt w wr g B hb na nf np nc s A1 A2 A3 A4 n1 n2 n3 n4 c1 c2 c3 c4 l1 l2 l3 l4) {W W2 : World} (k : Keeps wr W []) {x : LPred} {A' : Option Addr} {c' : Nat}
    (hown : W2.ownsRow w.heap.size 115 3 (.slice A' (n3 + 1) c') (n3 + 1) (l3.flatMap predE ++ predE x)) (hg : W.grownBy W2 (Value.slice A3 n3 c3).ownBlock) : RoSt w (W2.setCell ⟨w.heap.size + 1, 2, none⟩ (.slice A' (n3 + 1) c')) g B hb na nf np nc s A1 A2 A' A4 n1 n2 (n3 + 1) n4 c1 c2 c' c4 l1 l2 (l3 ++ [x]) l4 := by
  have s := s0.go k
  have u := blk_far s.out s.r3 (by decide) hg
  have r := blk_far s.res s.r3 (by decide) hg
  have d := blk_far s.hd s.r3 (by decide) hg
  have hl := s.low
  have hb3 := s.hbl
  have kg := Keeps.ofGrown hg
  have rr := (s.rdr.keep kg (fun q hq => by
    unfold ownL at hq
    simp at hq
    have := (s.r3.lt q hq).1
    omega)).keep ((Keeps.refl W2 [w.heap.size + 1]).setCell (p := ⟨w.heap.size + 1, 2, none⟩) (.inl (by simp)) (.slice A' (n3 + 1) c')) (fun q hq => by simp at hq; omega)
  refine ⟨rr, hl, r.far (by simp) _, by have := u.set_ 2 (.slice A' (n3 + 1) c'); simpa using this, d.far (fun e => d.ne_ u (by decide) e) _, own_set (own_far s.r1 s.r3 (by decide) hg) u (by decide) _ _, own_set (own_far s.r2 s.r3 (by decide) hg) u (by decide) _ _, ?_, own_set (own_far s.r4 s.r3 (by decide) hg) u (by decide) _ _, ?_, hb3⟩
  · rw [List.flatMap_append, List.flatMap_singleton]
    exact own_set hown u (by decide) _ _
  · exact (s.keep.past kg (fun q hq => by
      unfold ownL at hq
      simp at hq
      exact .inr (s.r3.lt q hq).1)).setCell (.inr (by simp)) _
theorem RoSt.see4 {w wr : World} {g B hb na nf np nc : Nat} {s : RdS} {A1 A2 A3 A4 : Option Addr} {n1 n2 n3 n4 c1 c2 c3 c4 : Nat} {l1 : List ByteArray} {l2 : List LFun} {l3 : List LPred} {l4 : List LIns} (h : RoSt w wr g B hb na nf np nc s A1 A2 A3 A4 n1 n2 n3 n4 c1 c2 c3 c4 l1 l2 l3 l4) {W' : World} (kk : Keeps wr W' (ownL (.slice A4 n4 c4))) : W'.frozen? ⟨w.heap.size + 1, 3, none⟩ = false ∧ W'.cell? ⟨w.heap.size + 1, 3, none⟩ = some (.slice A4 n4 c4) :=
  ⟨(h.out.keep kk (own_outT h.r4 h.out (by decide))).frozen 3, (h.out.keep kk (own_outT h.r4 h.out (by decide))).cell 3⟩
theorem RoSt.step4 {w wr : World} {g B hb na nf np nc : Nat} {s : RdS} {A1 A2 A3 A4 : Option Addr} {n1 n2 n3 n4 c1 c2 c3 c4 : Nat} {l1 : List ByteArray} {l2 : List LFun} {l3 : List LPred} {l4 : List LIns} (s0 : RoSt w wr g B hb na nf np nc s A1 A2 A3 A4 n1 n2 n3 n4 c1 c2 c3 c4 l1 l2 l3 l4) {W W2 : World} (k : Keeps wr W []) {x : LIns} {A' : Option Addr} {c' : Nat}
    (hown : W2.ownsRow w.heap.size 117 5 (.slice A' (n4 + 1) c') (n4 + 1) (l4.flatMap insE ++ insE x)) (hg : W.grownBy W2 (Value.slice A4 n4 c4).ownBlock) : RoSt w (W2.setCell ⟨w.heap.size + 1, 3, none⟩ (.slice A' (n4 + 1) c')) g B hb na nf np nc s A1 A2 A3 A' n1 n2 n3 (n4 + 1) c1 c2 c3 c' l1 l2 l3 (l4 ++ [x]) := by
  have s := s0.go k
  have u := blk_far s.out s.r4 (by decide) hg
  have r := blk_far s.res s.r4 (by decide) hg
  have d := blk_far s.hd s.r4 (by decide) hg
  have hl := s.low
  have hb3 := s.hbl
  have kg := Keeps.ofGrown hg
  have rr := (s.rdr.keep kg (fun q hq => by
    unfold ownL at hq
    simp at hq
    have := (s.r4.lt q hq).1
    omega)).keep ((Keeps.refl W2 [w.heap.size + 1]).setCell (p := ⟨w.heap.size + 1, 3, none⟩) (.inl (by simp)) (.slice A' (n4 + 1) c')) (fun q hq => by simp at hq; omega)
  refine ⟨rr, hl, r.far (by simp) _, by have := u.set_ 3 (.slice A' (n4 + 1) c'); simpa using this, d.far (fun e => d.ne_ u (by decide) e) _, own_set (own_far s.r1 s.r4 (by decide) hg) u (by decide) _ _, own_set (own_far s.r2 s.r4 (by decide) hg) u (by decide) _ _, own_set (own_far s.r3 s.r4 (by decide) hg) u (by decide) _ _, ?_, ?_, hb3⟩
  · rw [List.flatMap_append, List.flatMap_singleton]
    exact own_set hown u (by decide) _ _
  · exact (s.keep.past kg (fun q hq => by
      unfold ownL at hq
      simp at hq
      exact .inr (s.r4.lt q hq).1)).setCell (.inr (by simp)) _
end Go.Proofs.Ytdcjiohbnnipdaa
