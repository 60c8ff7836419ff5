/- What stands while the document's Decode runs; the plain laws that its walk asks. Printed by gen_refdst.py. -/
import Derived.Test.YtdcjiohbnnipdaaRefRd
import Derived.Test.YtdcjiohbnnipdaaRound
import Derived.Test.YtdcjiohbnnipdaaObjFrom
import Derived.Test.YtdcjiohbnnipdaaOpG
namespace Go.Proofs.Ytdcjiohbnnipdaa
open Go.RowKit

theorem many_keep {α : Type} (rd : RdS → α × RdS) (n : Nat) {s : RdS} (h : s.err ≠ 0) : manyR rd n s = ([], s) := by
  cases n with
  | zero => rfl
  | succ n => rw [manyR, if_neg h]
/-- A reader of many that doesn't stop at what is wrong, behind k of them. -/
structure ManyEx {α : Type} (rd : RdS → α × RdS) (n : Nat) (s0 : RdS) (k : Nat) (acc : List α) (s : RdS) : Prop where
  le : k ≤ n
  len : acc.length = k
  good : s.err = 0 → ManyAt rd n s0 k acc s
  bad : s.err ≠ 0 → (manyR rd n s0).2 = s
theorem ManyEx.start {α : Type} (rd : RdS → α × RdS) (n : Nat) (s0 : RdS) : ManyEx rd n s0 0 [] s0 := ⟨Nat.zero_le _, rfl, fun _ => ManyAt.start _ _ _, fun h => by rw [many_keep rd n h]⟩
theorem ManyEx.step {α : Type} {rd : RdS → α × RdS} (hrd : ∀ s, s.err ≠ 0 → (rd s).2 = s) {n : Nat} {s0 s : RdS} {k : Nat} {acc : List α} (h : ManyEx rd n s0 k acc s) (hk : k < n) : ManyEx rd n s0 (k + 1) (acc ++ [(rd s).1]) (rd s).2 := by
  by_cases he : s.err = 0
  · have h1 := (h.good he).step hk he
    exact ⟨hk, h1.len, fun _ => h1, fun hb => by rw [h1.stop (.inr hb)]⟩
  · have h2 := hrd s he
    exact ⟨hk, by simp [h.len], fun hg => (by rw [h2] at hg; exact absurd hg he), fun _ => by rw [h2]; exact h.bad he⟩
theorem ManyEx.stop {α : Type} {rd : RdS → α × RdS} {n : Nat} {s0 s : RdS} {acc : List α} (h : ManyEx rd n s0 n acc s) : (manyR rd n s0).2 = s ∧ (s.err = 0 → (manyR rd n s0).1 = acc) := by
  by_cases he : s.err = 0
  · have h1 := (h.good he).stop (.inl rfl)
    rw [h1]
    exact ⟨rfl, fun _ => rfl⟩
  · exact ⟨h.bad he, fun h0 => absurd h0 he⟩
theorem many_err {α : Type} {rd : RdS → α × RdS} {n : Nat} {s0 s : RdS} (h : (manyR rd n s0).2 = s) (h0 : s.err = 0) : s0.err = 0 := by
  by_cases he : s0.err = 0
  · exact he
  · rw [many_keep rd n he] at h
    rw [← h] at h0
    exact absurd h0 he
theorem funR_keep {s : RdS} (h : s.err ≠ 0) : (funR s).2 = s := by
  have h1 := nameR_keep h
  show (numR 1 (nameR s).2).2 = s
  rw [h1, numR_keep h]
theorem predR_keep {s : RdS} (h : s.err ≠ 0) : (predR s).2 = s := by
  have h1 := nameR_keep h
  show (numR 2 (numR 1 (nameR s).2).2).2 = s
  rw [h1, numR_keep h]
  simp only
  rw [numR_keep h]
theorem mark_keep {c : Int} {s : RdS} (h : s.err ≠ 0) : markR c s = s := by
  rw [markR, takeR_bad h, if_neg (by simp)]
theorem marks_keep {s : RdS} (h : s.err ≠ 0) : ∀ ms : List Int, ms.foldl (fun s c => markR c s) s = s
  | [] => rfl
  | c :: ms => by rw [List.foldl_cons, mark_keep h]; exact marks_keep h ms
theorem marks_go (t : List Int) : ∀ ms : List Int, ms.foldl (fun s c => markR c s) ⟨ms ++ t, 0⟩ = ⟨t, 0⟩
  | [] => rfl
  | c :: ms => by rw [List.foldl_cons, List.cons_append, mark_enc]; exact marks_go t ms
theorem magic_ok {L : List Int} (h : L.take 5 = magicL) : magicR ⟨L, 0⟩ = ⟨L.drop 5, 0⟩ := by
  have h2 := marks_go (L.drop 5) magicL
  rw [← h, List.take_append_drop] at h2
  rw [magicR, ← h]
  exact h2
theorem magic_wrong {L : List Int} {j : Nat} {x m : Int} (h : L.take j = magicL.take j) (hx : L[j]? = some x) (hm : magicL[j]? = some m) (hne : x ≠ m) : (magicR ⟨L, 0⟩).err = 5 := by
  have hjl : j < L.length := (List.getElem?_eq_some_iff.1 hx).1
  have hjm : j < magicL.length := (List.getElem?_eq_some_iff.1 hm).1
  have hL : L = magicL.take j ++ x :: L.drop (j + 1) := by
    rw [← h]
    have h2 : L.drop j = x :: L.drop (j + 1) := by
      rw [List.drop_eq_getElem_cons hjl, (List.getElem?_eq_some_iff.1 hx).2]
    rw [← h2, List.take_append_drop]
  have hM : magicL = magicL.take j ++ m :: magicL.drop (j + 1) := by
    have h2 : magicL.drop j = m :: magicL.drop (j + 1) := by
      rw [List.drop_eq_getElem_cons hjm, (List.getElem?_eq_some_iff.1 hm).2]
    rw [← h2, List.take_append_drop]
  have h1 := marks_go (x :: L.drop (j + 1)) (magicL.take j)
  rw [← hL] at h1
  have hbad : markR m ⟨x :: L.drop (j + 1), 0⟩ = ⟨L.drop (j + 1), 5⟩ := by
    have ht : takeR 1 ⟨x :: L.drop (j + 1), 0⟩ = ([x], ⟨L.drop (j + 1), 0⟩) := take_enc (x := [x]) _ rfl
    rw [markR, ht, if_pos ⟨rfl, hne⟩]
  rw [magicR, hM, List.foldl_append, h1, List.foldl_cons, hbad, marks_keep (by simp)]
theorem head_bad {s : RdS} (h : (magicR s).err ≠ 0) : (headR s).s = magicR s := by
  rw [headR]
  simp only
  rw [numR_keep h]
  simp only
  rw [numR_keep h]
  simp only
  rw [numR_keep h]
  simp only
  rw [numR_keep h]
  simp only
  rw [fullR, if_neg (fun hh => h hh.1)]
theorem dec_err {L : List Int} (h : (objR ⟨L, 0⟩).2.err ≠ 0) : decB L = (noObj, (objR ⟨L, 0⟩).2.err) := by
  rw [decB, numR_keep h, if_pos h]
theorem parts_bad {h : HdR} (hb : h.s.err ≠ 0) : (partsR h).2 = h.s := by
  rw [partsR]
  simp only
  rw [many_keep nameR _ hb]
  simp only
  rw [many_keep funR _ hb]
  simp only
  rw [many_keep predR _ hb]
  simp only
  rw [many_keep insR _ hb]
theorem obj_bad {s : RdS} (h : (partsR (headR s)).2.err ≠ 0) : (objR s).2 = (partsR (headR s)).2 := by
  rw [objR]
  simp only
  rw [checkR, if_neg h]
theorem dec_head {L : List Int} (h : (headR ⟨L, 0⟩).s.err ≠ 0) : decB L = (noObj, (headR ⟨L, 0⟩).s.err) := by
  have h1 := parts_bad h
  have h2 : (objR ⟨L, 0⟩).2 = (headR ⟨L, 0⟩).s := by rw [obj_bad (by rw [h1]; exact h), h1]
  rw [dec_err (by rw [h2]; exact h), h2]
theorem dec_wrong {L : List Int} {j : Nat} {x m : Int} (h : L.take j = magicL.take j) (hx : L[j]? = some x) (hm : magicL[j]? = some m) (hne : x ≠ m) : decB L = (noObj, 5) := by
  have h5 := magic_wrong h hx hm hne
  have hh := head_bad (s := ⟨L, 0⟩) (by rw [h5]; decide)
  have := dec_head (L := L) (by rw [hh, h5]; decide)
  rw [this, hh, h5]
theorem dec_short {L : List Int} {j : Nat} (hj : j < 5) (h : L.take j = magicL.take j) (hl : L.length = j) : decB L = (noObj, 3) := by
  rw [List.take_of_length_le (by omega)] at h
  subst h
  match j, hj with
  | 0, _ => decide +kernel
  | 1, _ => decide +kernel
  | 2, _ => decide +kernel
  | 3, _ => decide +kernel
  | 4, _ => decide +kernel
/-- What Decode tells, once the parts are read. -/
theorem dec_parts {L : List Int} {o : LObj} {s : RdS} (hp : partsR (headR ⟨L, 0⟩) = (o, s)) : decB L = if s.err ≠ 0 then (noObj, s.err) else if checkE o ≠ 0 then (noObj, checkE o) else
    if (numR 4 s).2.err ≠ 0 then (noObj, (numR 4 s).2.err) else if (numR 4 s).2.rest ≠ [] then (noObj, 4) else if ((numR 4 s).1 : Int) ≠ Crc.int (Crc.go 0#32 (L.take (L.length - s.rest.length))) then (noObj, 6) else (o, 0) := by
  have ho : objR ⟨L, 0⟩ = (o, checkR o s) := by
    rw [objR, hp]
  by_cases h1 : s.err = 0
  · rw [if_neg (fun h => h h1)]
    have hc : checkR o s = ⟨s.rest, checkE o⟩ := by rw [checkR, if_pos h1]
    by_cases h2 : checkE o = 0
    · rw [if_neg (fun h => h h2)]
      have hs : checkR o s = s := by
        rw [hc, h2]
        obtain ⟨r, e⟩ := s
        simp only at h1
        rw [h1]
      rw [decB, ho, hs]
    · rw [if_pos h2, dec_err (by rw [ho, hc]; exact h2), ho, hc]
  · have hc : checkR o s = s := by rw [checkR, if_neg h1]
    rw [if_pos h1, dec_err (by rw [ho, hc]; exact h1), ho, hc]
/-- The rows that are told, out of four readers' ends. -/
theorem parts_is {na nf np nc : Nat} {s0 s1 s2 s3 s4 : RdS} {l1 : List ByteArray} {l2 : List LFun} {l3 : List LPred} {l4 : List LIns} (h1 : (manyR nameR na s0).2 = s1 ∧ (s1.err = 0 → (manyR nameR na s0).1 = l1)) (h2 : (manyR funR nf s1).2 = s2 ∧ (s2.err = 0 → (manyR funR nf s1).1 = l2))
    (h3 : (manyR predR np s2).2 = s3 ∧ (s3.err = 0 → (manyR predR np s2).1 = l3)) (h4 : manyR insR nc s3 = (l4, s4)) : ∃ o, partsR ⟨na, nf, np, nc, s0⟩ = (o, s4) ∧ (s4.err = 0 → o = ⟨l1, l2, l3, l4⟩) := by
  refine ⟨(partsR ⟨na, nf, np, nc, s0⟩).1, ?_, fun he => ?_⟩
  · rw [partsR]
    simp only
    rw [h1.1, h2.1, h3.1, h4]
  · have e3 : s3.err = 0 := many_err (rd := insR) (n := nc) (by rw [h4]) he
    have e2 : s2.err = 0 := many_err h3.1 e3
    have e1 : s1.err = 0 := many_err h2.1 e2
    rw [partsR]
    simp only
    rw [h1.1, h2.1, h3.1, h4, h1.2 e1, h2.2 e2, h3.2 e3]

attribute [local irreducible] takeR numR nameR insR kindsOf nameOf bigB checkE
/-- The reader at s (its block g); the result's block, the object's (ob); the four rows so far. -/
structure DdSt (w wr : World) (g ob : Nat) (A0 : Option Addr) (n0 c0 : Nat) (L : List Int) (s : RdS) (A1 A2 A3 A4 : Option Addr) (n1 n2 n3 n4 c1 c2 c3 c4 : Nat) (l1 : List ByteArray) (l2 : List LFun) (l3 : List LPred) (l4 : List LIns) : Prop where
  rdr : RrAt wr g (g + 1) A0 n0 c0 L s
  rl : w.heap.size < g
  ol : g < ob
  res : Blk wr w.heap.size 38 #[.slice none 0 0, .slice none 0 0, .slice none 0 0, .slice none 0 0]
  out : Blk wr ob 38 #[.slice A1 n1 c1, .slice A2 n2 c2, .slice A3 n3 c3, .slice A4 n4 c4]
  r1 : wr.ownsRow ob 9 1 (.slice A1 n1 c1) n1 (l1.flatMap strE)
  r2 : wr.ownsRow ob 105 2 (.slice A2 n2 c2) n2 (l2.flatMap funE)
  r3 : wr.ownsRow ob 107 3 (.slice A3 n3 c3) n3 (l3.flatMap predE)
  r4 : wr.ownsRow ob 110 5 (.slice A4 n4 c4) n4 (l4.flatMap insE)
  keep : Keeps w wr []
theorem DdSt.go {w wr : World} {g ob : Nat} {A0 : Option Addr} {n0 c0 : Nat} {L : List Int} {s : RdS} {A1 A2 A3 A4 : Option Addr} {n1 n2 n3 n4 c1 c2 c3 c4 : Nat} {l1 : List ByteArray} {l2 : List LFun} {l3 : List LPred} {l4 : List LIns} (h : DdSt w wr g ob A0 n0 c0 L s A1 A2 A3 A4 n1 n2 n3 n4 c1 c2 c3 c4 l1 l2 l3 l4) {W : World} (k : Keeps wr W []) : DdSt w W g ob A0 n0 c0 L s A1 A2 A3 A4 n1 n2 n3 n4 c1 c2 c3 c4 l1 l2 l3 l4 :=
  ⟨h.rdr.keep0 k, h.rl, h.ol, h.res.keep k (by simp), h.out.keep k (by simp), own_keep0 h.r1 k, own_keep0 h.r2 k, own_keep0 h.r3 k, own_keep0 h.r4 k, h.keep.trans k⟩
theorem DdSt.read {w wr : World} {g ob : Nat} {A0 : Option Addr} {n0 c0 : Nat} {L : List Int} {s : RdS} {A1 A2 A3 A4 : Option Addr} {n1 n2 n3 n4 c1 c2 c3 c4 : Nat} {l1 : List ByteArray} {l2 : List LFun} {l3 : List LPred} {l4 : List LIns} (h : DdSt w wr g ob A0 n0 c0 L s A1 A2 A3 A4 n1 n2 n3 n4 c1 c2 c3 c4 l1 l2 l3 l4) {W : World} {s' : RdS} (hr : RrAt W g (g + 1) A0 n0 c0 L s') (k : Keeps wr W [g]) : DdSt w W g ob A0 n0 c0 L s' A1 A2 A3 A4 n1 n2 n3 n4 c1 c2 c3 c4 l1 l2 l3 l4 := by
  have h1 := h.rl
  have h2 := h.ol
  exact ⟨hr, h.rl, h.ol, h.res.keep k (by simp; omega), h.out.keep k (by simp; omega), own_keepS h.r1 k (by simp; omega), own_keepS h.r2 k (by simp; omega), own_keepS h.r3 k (by simp; omega), own_keepS h.r4 k (by simp; omega), h.keep.past k (fun q hq => by simp at hq; exact .inr (by omega))⟩
/-- .. behind writes to newer blocks that are none of these. -/
theorem DdSt.past {w wr : World} {g ob : Nat} {A0 : Option Addr} {n0 c0 : Nat} {L : List Int} {s : RdS} {A1 A2 A3 A4 : Option Addr} {n1 n2 n3 n4 c1 c2 c3 c4 : Nat} {l1 : List ByteArray} {l2 : List LFun} {l3 : List LPred} {l4 : List LIns} (h : DdSt w wr g ob A0 n0 c0 L s A1 A2 A3 A4 n1 n2 n3 n4 c1 c2 c3 c4 l1 l2 l3 l4) {W : World} {x : Nat} (k : Keeps wr W [x]) (hx : ob < x) (o1 : x ∉ ownL (.slice A1 n1 c1)) (o2 : x ∉ ownL (.slice A2 n2 c2)) (o3 : x ∉ ownL (.slice A3 n3 c3)) (o4 : x ∉ ownL (.slice A4 n4 c4)) : DdSt w W g ob A0 n0 c0 L s A1 A2 A3 A4 n1 n2 n3 n4 c1 c2 c3 c4 l1 l2 l3 l4 := by
  have h1 := h.rl
  have h2 := h.ol
  have ownS : ∀ {e : TypeId} {sz n c : Nat} {A : Option Addr} {xs : List Value}, (x ∉ ownL (.slice A n c)) → wr.ownsRow ob e sz (.slice A n c) n xs → W.ownsRow ob e sz (.slice A n c) n xs := fun hq ho => by
    refine ⟨ho.1, ?_⟩
    rcases ho.2 with h2 | ⟨g, cap, cur, he, hb, hg, r⟩
    · exact .inl h2
    · refine .inr ⟨g, cap, cur, he, hb, (k.block g (Array.getElem?_eq_some_iff.1 hg).1 (fun hm => hq (by simp at hm; rw [he, hm]; simp [ownL, Value.ownBlock]))).trans hg, r⟩
  exact ⟨h.rdr.keep k (fun q hq => by simp at hq; omega), h.rl, h.ol, h.res.keep k (by simp; omega), h.out.keep k (by simp; omega), ownS o1 h.r1, ownS o2 h.r2, ownS o3 h.r3, ownS o4 h.r4, h.keep.past k (fun q hq => by simp at hq; exact .inr (by omega))⟩
theorem DdSt.see1 {w wr : World} {g ob : Nat} {A0 : Option Addr} {n0 c0 : Nat} {L : List Int} {s : RdS} {A1 A2 A3 A4 : Option Addr} {n1 n2 n3 n4 c1 c2 c3 c4 : Nat} {l1 : List ByteArray} {l2 : List LFun} {l3 : List LPred} {l4 : List LIns} (h : DdSt w wr g ob A0 n0 c0 L s A1 A2 A3 A4 n1 n2 n3 n4 c1 c2 c3 c4 l1 l2 l3 l4) {W' : World} (kk : Keeps wr W' (ownL (.slice A1 n1 c1))) : W'.frozen? ⟨ob, 0, none⟩ = false ∧ W'.cell? ⟨ob, 0, none⟩ = some (.slice A1 n1 c1) :=
  ⟨(h.out.keep kk (own_outT h.r1 h.out (by decide))).frozen 0, (h.out.keep kk (own_outT h.r1 h.out (by decide))).cell 0⟩
theorem DdSt.step1 {w wr : World} {g ob : Nat} {A0 : Option Addr} {n0 c0 : Nat} {L : List Int} {s : RdS} {A1 A2 A3 A4 : Option Addr} {n1 n2 n3 n4 c1 c2 c3 c4 : Nat} {l1 : List ByteArray} {l2 : List LFun} {l3 : List LPred} {l4 : List LIns} (s0 : DdSt w wr g ob A0 n0 c0 L s A1 A2 A3 A4 n1 n2 n3 n4 c1 c2 c3 c4 l1 l2 l3 l4) {W W2 : World} (k : Keeps wr W []) {x : ByteArray} {A' : Option Addr} {c' : Nat}
    (hown : W2.ownsRow ob 9 1 (.slice A' (n1 + 1) c') (n1 + 1) (l1.flatMap strE ++ strE x)) (hg : W.grownBy W2 (Value.slice A1 n1 c1).ownBlock) : DdSt w (W2.setCell ⟨ob, 0, none⟩ (.slice A' (n1 + 1) c')) g ob A0 n0 c0 L s A' A2 A3 A4 (n1 + 1) n2 n3 n4 c' c2 c3 c4 (l1 ++ [x]) l2 l3 l4 := by
  have s := s0.go k
  have u := blk_far s.out s.r1 (by decide) hg
  have r := blk_far s.res s.r1 (by decide) hg
  have h1 := s.rl
  have h2 := s.ol
  have kg := Keeps.ofGrown hg
  have rr := (s.rdr.keep kg (fun q hq => by
    unfold ownL at hq
    simp at hq
    have := (s.r1.lt q hq).1
    omega)).keep ((Keeps.refl W2 [ob]).setCell (p := ⟨ob, 0, none⟩) (.inl (by simp)) (.slice A' (n1 + 1) c')) (fun q hq => by simp at hq; omega)
  refine ⟨rr, h1, h2, r.far (by simp; omega) _, by have := u.set_ 0 (.slice A' (n1 + 1) c'); simpa using this, ?_, own_set (own_far s.r2 s.r1 (by decide) hg) u (by decide) _ _, own_set (own_far s.r3 s.r1 (by decide) hg) u (by decide) _ _, own_set (own_far s.r4 s.r1 (by decide) hg) u (by decide) _ _, ?_⟩
  · rw [List.flatMap_append, List.flatMap_singleton]
    exact own_set hown u (by decide) _ _
  · exact (s.keep.past kg (fun q hq => by
      unfold ownL at hq
      simp at hq
      have := (s.r1.lt q hq).1
      exact .inr (by omega))).setCell (.inr (by simp; omega)) _
theorem DdSt.see2 {w wr : World} {g ob : Nat} {A0 : Option Addr} {n0 c0 : Nat} {L : List Int} {s : RdS} {A1 A2 A3 A4 : Option Addr} {n1 n2 n3 n4 c1 c2 c3 c4 : Nat} {l1 : List ByteArray} {l2 : List LFun} {l3 : List LPred} {l4 : List LIns} (h : DdSt w wr g ob A0 n0 c0 L s A1 A2 A3 A4 n1 n2 n3 n4 c1 c2 c3 c4 l1 l2 l3 l4) {W' : World} (kk : Keeps wr W' (ownL (.slice A2 n2 c2))) : W'.frozen? ⟨ob, 1, none⟩ = false ∧ W'.cell? ⟨ob, 1, none⟩ = some (.slice A2 n2 c2) :=
  ⟨(h.out.keep kk (own_outT h.r2 h.out (by decide))).frozen 1, (h.out.keep kk (own_outT h.r2 h.out (by decide))).cell 1⟩
theorem DdSt.step2 {w wr : World} {g ob : Nat} {A0 : Option Addr} {n0 c0 : Nat} {L : List Int} {s : RdS} {A1 A2 A3 A4 : Option Addr} {n1 n2 n3 n4 c1 c2 c3 c4 : Nat} {l1 : List ByteArray} {l2 : List LFun} {l3 : List LPred} {l4 : List LIns} (s0 : DdSt w wr g ob A0 n0 c0 L s A1 A2 A3 A4 n1 n2 n3 n4 c1 c2 c3 c4 l1 l2 l3 l4) {W W2 : World} (k : Keeps wr W []) {x : LFun} {A' : Option Addr} {c' : Nat}
    (hown : W2.ownsRow ob 105 2 (.slice A' (n2 + 1) c') (n2 + 1) (l2.flatMap funE ++ funE x)) (hg : W.grownBy W2 (Value.slice A2 n2 c2).ownBlock) : DdSt w (W2.setCell ⟨ob, 1, none⟩ (.slice A' (n2 + 1) c')) g ob A0 n0 c0 L s A1 A' A3 A4 n1 (n2 + 1) n3 n4 c1 c' c3 c4 l1 (l2 ++ [x]) l3 l4 := by
  have s := s0.go k
  have u := blk_far s.out s.r2 (by decide) hg
  have r := blk_far s.res s.r2 (by decide) hg
  have h1 := s.rl
  have h2 := s.ol
  have kg := Keeps.ofGrown hg
  have rr := (s.rdr.keep kg (fun q hq => by
    unfold ownL at hq
    simp at hq
    have := (s.r2.lt q hq).1
    omega)).keep ((Keeps.refl W2 [ob]).setCell (p := ⟨ob, 1, none⟩) (.inl (by simp)) (.slice A' (n2 + 1) c')) (fun q hq => by simp at hq; omega)
  refine ⟨rr, h1, h2, r.far (by simp; omega) _, by have := u.set_ 1 (.slice A' (n2 + 1) c'); simpa using this, own_set (own_far s.r1 s.r2 (by decide) hg) u (by decide) _ _, ?_, own_set (own_far s.r3 s.r2 (by decide) hg) u (by decide) _ _, own_set (own_far s.r4 s.r2 (by decide) hg) u (by decide) _ _, ?_⟩
  · rw [List.flatMap_append, List.flatMap_singleton]
    exact own_set hown u (by decide) _ _
  · exact (s.keep.past kg (fun q hq => by
      unfold ownL at hq
      simp at hq
      have := (s.r2.lt q hq).1
      exact .inr (by omega))).setCell (.inr (by simp; omega)) _
theorem DdSt.see3 {w wr : World} {g ob : Nat} {A0 : Option Addr} {n0 c0 : Nat} {L : List Int} {s : RdS} {A1 A2 A3 A4 : Option Addr} {n1 n2 n3 n4 c1 c2 c3 c4 : Nat} {l1 : List ByteArray} {l2 : List LFun} {l3 : List LPred} {l4 : List LIns} (h : DdSt w wr g ob A0 n0 c0 L s A1 A2 A3 A4 n1 n2 n3 n4 c1 c2 c3 c4 l1 l2 l3 l4) {W' : World} (kk : Keeps wr W' (ownL (.slice A3 n3 c3))) : W'.frozen? ⟨ob, 2, none⟩ = false ∧ W'.cell? ⟨ob, 2, none⟩ = some (.slice A3 n3 c3) :=
  ⟨(h.out.keep kk (own_outT h.r3 h.out (by decide))).frozen 2, (h.out.keep kk (own_outT h.r3 h.out (by decide))).cell 2⟩
theorem DdSt.step3 {w wr : World} {g ob : Nat} {A0 : Option Addr} {n0 c0 : Nat} {L : List Int} {s : RdS} {A1 A2 A3 A4 : Option Addr} {n1 n2 n3 n4 c1 c2 c3 c4 : Nat} {l1 : List ByteArray} {l2 : List LFun} {l3 : List LPred} {l4 : List LIns} (s0 : DdSt w wr g ob A0 n0 c0 L s A1 A2 A3 A4 n1 n2 n3 n4 c1 c2 c3 c4 l1 l2 l3 l4) {W W2 : World} (k : Keeps wr W []) {x : LPred} {A' : Option Addr} {c' : Nat}
    (hown : W2.ownsRow ob 107 3 (.slice A' (n3 + 1) c') (n3 + 1) (l3.flatMap predE ++ predE x)) (hg : W.grownBy W2 (Value.slice A3 n3 c3).ownBlock) : DdSt w (W2.setCell ⟨ob, 2, none⟩ (.slice A' (n3 + 1) c')) g ob A0 n0 c0 L s A1 A2 A' A4 n1 n2 (n3 + 1) n4 c1 c2 c' c4 l1 l2 (l3 ++ [x]) l4 := by
  have s := s0.go k
  have u := blk_far s.out s.r3 (by decide) hg
  have r := blk_far s.res s.r3 (by decide) hg
  have h1 := s.rl
  have h2 := s.ol
  have kg := Keeps.ofGrown hg
  have rr := (s.rdr.keep kg (fun q hq => by
    unfold ownL at hq
    simp at hq
    have := (s.r3.lt q hq).1
    omega)).keep ((Keeps.refl W2 [ob]).setCell (p := ⟨ob, 2, none⟩) (.inl (by simp)) (.slice A' (n3 + 1) c')) (fun q hq => by simp at hq; omega)
  refine ⟨rr, h1, h2, r.far (by simp; omega) _, by have := u.set_ 2 (.slice A' (n3 + 1) c'); simpa using this, own_set (own_far s.r1 s.r3 (by decide) hg) u (by decide) _ _, own_set (own_far s.r2 s.r3 (by decide) hg) u (by decide) _ _, ?_, own_set (own_far s.r4 s.r3 (by decide) hg) u (by decide) _ _, ?_⟩
  · rw [List.flatMap_append, List.flatMap_singleton]
    exact own_set hown u (by decide) _ _
  · exact (s.keep.past kg (fun q hq => by
      unfold ownL at hq
      simp at hq
      have := (s.r3.lt q hq).1
      exact .inr (by omega))).setCell (.inr (by simp; omega)) _
theorem DdSt.see4 {w wr : World} {g ob : Nat} {A0 : Option Addr} {n0 c0 : Nat} {L : List Int} {s : RdS} {A1 A2 A3 A4 : Option Addr} {n1 n2 n3 n4 c1 c2 c3 c4 : Nat} {l1 : List ByteArray} {l2 : List LFun} {l3 : List LPred} {l4 : List LIns} (h : DdSt w wr g ob A0 n0 c0 L s A1 A2 A3 A4 n1 n2 n3 n4 c1 c2 c3 c4 l1 l2 l3 l4) {W' : World} (kk : Keeps wr W' (ownL (.slice A4 n4 c4))) : W'.frozen? ⟨ob, 3, none⟩ = false ∧ W'.cell? ⟨ob, 3, none⟩ = some (.slice A4 n4 c4) :=
  ⟨(h.out.keep kk (own_outT h.r4 h.out (by decide))).frozen 3, (h.out.keep kk (own_outT h.r4 h.out (by decide))).cell 3⟩
theorem DdSt.step4 {w wr : World} {g ob : Nat} {A0 : Option Addr} {n0 c0 : Nat} {L : List Int} {s : RdS} {A1 A2 A3 A4 : Option Addr} {n1 n2 n3 n4 c1 c2 c3 c4 : Nat} {l1 : List ByteArray} {l2 : List LFun} {l3 : List LPred} {l4 : List LIns} (s0 : DdSt w wr g ob A0 n0 c0 L s A1 A2 A3 A4 n1 n2 n3 n4 c1 c2 c3 c4 l1 l2 l3 l4) {W W2 : World} (k : Keeps wr W []) {x : LIns} {A' : Option Addr} {c' : Nat}
    (hown : W2.ownsRow ob 110 5 (.slice A' (n4 + 1) c') (n4 + 1) (l4.flatMap insE ++ insE x)) (hg : W.grownBy W2 (Value.slice A4 n4 c4).ownBlock) : DdSt w (W2.setCell ⟨ob, 3, none⟩ (.slice A' (n4 + 1) c')) g ob A0 n0 c0 L s A1 A2 A3 A' n1 n2 n3 (n4 + 1) c1 c2 c3 c' l1 l2 l3 (l4 ++ [x]) := by
  have s := s0.go k
  have u := blk_far s.out s.r4 (by decide) hg
  have r := blk_far s.res s.r4 (by decide) hg
  have h1 := s.rl
  have h2 := s.ol
  have kg := Keeps.ofGrown hg
  have rr := (s.rdr.keep kg (fun q hq => by
    unfold ownL at hq
    simp at hq
    have := (s.r4.lt q hq).1
    omega)).keep ((Keeps.refl W2 [ob]).setCell (p := ⟨ob, 3, none⟩) (.inl (by simp)) (.slice A' (n4 + 1) c')) (fun q hq => by simp at hq; omega)
  refine ⟨rr, h1, h2, r.far (by simp; omega) _, by have := u.set_ 3 (.slice A' (n4 + 1) c'); simpa using this, own_set (own_far s.r1 s.r4 (by decide) hg) u (by decide) _ _, own_set (own_far s.r2 s.r4 (by decide) hg) u (by decide) _ _, own_set (own_far s.r3 s.r4 (by decide) hg) u (by decide) _ _, ?_, ?_⟩
  · rw [List.flatMap_append, List.flatMap_singleton]
    exact own_set hown u (by decide) _ _
  · exact (s.keep.past kg (fun q hq => by
      unfold ownL at hq
      simp at hq
      have := (s.r4.lt q hq).1
      exact .inr (by omega))).setCell (.inr (by simp; omega)) _
end Go.Proofs.Ytdcjiohbnnipdaa
