import Derived.Test.YtjbomjnkjcafcaaMgOf
import Derived.Shelf.SlGeneric
import Derived.Shelf.SlSortCmp.InsertionK
import Derived.Ground.SlsfProg
import Derived.Test.YtjbomjnkjcafcaaMgBind
import Derived.Test.YtjbomjnkjcafcaaShelf
import Derived.Test.YtjbomjnkjcafcaaTmRd
/- The state of Unify in memory. No function in sight. -/
namespace Go.Proofs.Ytjbomjnkjcafcaa
open Go.RowKit

/-- Two terms' eight cells. -/
def lvE (x : TV × TV) : List Value := [.int .i64 x.1.k, .int .i64 x.1.n, .string x.1.s, .slice x.1.A x.1.len x.1.c, .int .i64 x.2.k, .int .i64 x.2.n, .string x.2.s, .slice x.2.A x.2.len x.2.c]
theorem lvE_len (x : TV × TV) : (lvE x).length = 8 := rfl
theorem flat_len8 (l : List (TV × TV)) : (l.flatMap lvE).length = l.length * 8 := length_flat lvE_len l
theorem lvE_one (l : List (TV × TV)) : ∀ u ∈ l.flatMap lvE, u.oneCell' = true := by
  intro u hu
  obtain ⟨x, _, hx⟩ := List.mem_flatMap.1 hu
  simp only [lvE, List.mem_cons, List.not_mem_nil, or_false] at hx
  rcases hx with rfl | rfl | rfl | rfl | rfl | rfl | rfl | rfl <;> rfl
/-- The pairs that are left: the first of each pair stands second. -/
structure Lst (w : World) (S : Nat → Prop) (st : List (Tm × Tm)) (ws : List (TV × TV)) : Prop where
  len : ws.length = st.length
  at_ : ∀ (j : Nat) p v, st[j]? = some p → ws[j]? = some v → Tr w S p.1 v.2 ∧ Tr w S p.2 v.1
theorem Lst.keepL {w w' : World} {S : Nat → Prop} {L : List Nat} (k : Keeps w w' L) (hL : ∀ b ∈ L, ¬ S b) {st : List (Tm × Tm)} {ws : List (TV × TV)} (h : Lst w S st ws) : Lst w' S st ws :=
  ⟨h.len, fun j p v a b => ⟨(h.at_ j p v a b).1.keepL k hL, (h.at_ j p v a b).2.keepL k hL⟩⟩
theorem Lst.nil {w : World} {S : Nat → Prop} : Lst w S [] [] := ⟨rfl, fun j p v h => by simp at h⟩
theorem Lst.cons {w : World} {S : Nat → Prop} {st : List (Tm × Tm)} {ws : List (TV × TV)} (h : Lst w S st ws) {a b : Tm} {u v : TV} (ha : Tr w S a u) (hb : Tr w S b v) : Lst w S ((a, b) :: st) ((v, u) :: ws) := by
  refine ⟨by simp [h.len], fun j p x h1 h2 => ?_⟩
  cases j with
  | zero => simp at h1 h2; subst h1 h2; exact ⟨ha, hb⟩
  | succ j => exact h.at_ j p x (by simpa using h1) (by simpa using h2)
theorem Lst.tail {w : World} {S : Nat → Prop} {st : List (Tm × Tm)} {ws : List (TV × TV)} {a b : Tm} {v u : TV} (h : Lst w S ((a, b) :: st) ((v, u) :: ws)) : Lst w S st ws ∧ Tr w S a u ∧ Tr w S b v :=
  ⟨⟨by have := h.len; simpa using this, fun j p x h1 h2 => h.at_ (j + 1) p x (by simpa using h1) (by simpa using h2)⟩, h.at_ 0 _ _ rfl rfl⟩
theorem own_short {w : World} {base n m c size : Nat} {e : TypeId} {A : Option Addr} {xs ys : List Value} (h : w.ownsRow base e size (.slice A n c) n (xs ++ ys)) (hx : xs.length = m * size) (hmn : m ≤ n) (hA : A ≠ none) : w.ownsRow base e size (.slice A m c) m xs := by
  refine ⟨hx, ?_⟩
  rcases h.2 with ⟨h1, _⟩ | ⟨g, cap, cur, h1, h2, h3, h4, h5, h6, h7⟩
  · injection h1 with h1; exact absurd h1 hA
  · injection h1 with h1 _ h8
    subst h1 h8
    refine .inr ⟨g, c, cur, rfl, h2, h3, by omega, h5, h6, ?_⟩
    have := congrArg (List.take (m * size)) h7
    rw [List.take_take, Nat.min_eq_left (Nat.mul_le_mul_right _ hmn), ← hx, List.take_left] at this
    rw [← hx]
    exact this
theorem own_at {w : World} {base n c size : Nat} {e : TypeId} {A : Option Addr} {xs : List Value} (h : w.ownsRow base e size (.slice A n c) n xs) (hn : 0 < n) : ∃ g, A = some ⟨g, 0, none⟩ ∧ n ≤ c := by
  rcases h.2 with ⟨_, h1⟩ | ⟨g, cap, cur, h1, h2, h3, h4, _⟩
  · omega
  · injection h1 with h1 _ h8
    subst h8
    exact ⟨g, h1, h4⟩

/-- What stands between two steps. -/
structure US (pt at_ : TypeId) (w wr : World) (s : Sbt) (st : List (Tm × Tm)) (A : Option Addr) (m c : Nat) (LA : Option Addr) (k lc : Nat) (ps : List (Int × TV)) (ws : List (TV × TV)) : Prop where
  own1 : wr.ownsRow w.heap.size pt 5 (.slice A m c) m (ps.flatMap pvE)
  prs : Prs wr (fun b => b < w.heap.size) s ps
  sm : s.length = m
  own2 : wr.ownsRow w.heap.size at_ 8 (.slice LA k lc) k (ws.reverse.flatMap lvE)
  lst : Lst wr (fun b => b < w.heap.size) st ws
  sk : st.length = k
  ne : ∀ b ∈ ownL (.slice A m c), b ∉ ownL (.slice LA k lc)
  keep : Keeps w wr []
section
variable {pt at_ : TypeId} {w wr : World} {s : Sbt} {st : List (Tm × Tm)} {A : Option Addr} {m c : Nat} {LA : Option Addr} {k lc : Nat} {ps : List (Int × TV)} {ws : List (TV × TV)}
theorem US.keep0 (h : US pt at_ w wr s st A m c LA k lc ps ws) {W : World} (kk : Keeps wr W []) : US pt at_ w W s st A m c LA k lc ps ws :=
  ⟨own_keep0 h.own1 kk, h.prs.keep kk, h.sm, own_keep0 h.own2 kk, h.lst.keepL kk (by simp), h.sk, h.ne, h.keep.trans kk⟩
theorem US.sub (h : US pt at_ w wr s st A m c LA k lc ps ws) : Sub wr (fun b => b < w.heap.size) s A := ⟨⟨ps, h.prs, Rd.of_own h.own1⟩⟩
/-- Other blocks that are new turn. -/
theorem US.keepL (h : US pt at_ w wr s st A m c LA k lc ps ws) {W : World} {L : List Nat} (kk : Keeps wr W L) (hL : ∀ b ∈ L, b ∉ ownL (.slice A m c) ∧ b ∉ ownL (.slice LA k lc) ∧ w.heap.size ≤ b) : US pt at_ w W s st A m c LA k lc ps ws :=
  ⟨own_keepL h.own1 kk (fun b hb => (hL b hb).1), h.prs.keepL kk (fun b hb hlt => by have := (hL b hb).2.2; omega), h.sm, own_keepL h.own2 kk (fun b hb => (hL b hb).2.1), h.lst.keepL kk (fun b hb hlt => by have := (hL b hb).2.2; omega), h.sk, h.ne,
    ⟨kk.os.trans h.keep.os, kk.tape.trans h.keep.tape, kk.output.trans h.keep.output, Nat.le_trans h.keep.size kk.size, fun i hi _ => (kk.block i (Nat.lt_of_lt_of_le hi h.keep.size) (fun hm => by have := (hL i hm).2.2; omega)).trans (h.keep.block i hi (by simp))⟩⟩
/-- The topmost pair. -/
theorem US.pop {a b : Tm} (h : US pt at_ w wr s ((a, b) :: st) A m c LA k lc ps ws) : ∃ k' lg u v ws', k = k' + 1 ∧ LA = some ⟨lg, 0, none⟩ ∧ k' + 1 ≤ lc ∧ Tr wr (fun b => b < w.heap.size) a u ∧ Tr wr (fun b => b < w.heap.size) b v ∧
    (∀ j x, (lvE (v, u))[j]? = some x → wr.cell? ⟨lg, 0 + k' * 8 + j, none⟩ = some x) ∧ US pt at_ w wr s st A m c LA k' lc ps ws' := by
  cases ws with
  | nil => have := h.lst.len; simp at this
  | cons x ws =>
    obtain ⟨v, u⟩ := x
    have hk := h.sk
    simp only [List.length_cons] at hk
    obtain ⟨lg, hLA, hlc⟩ := own_at h.own2 (by omega)
    obtain ⟨h1, ha, hb⟩ := h.lst.tail
    have hl : ws.length = st.length := h1.len
    have ho := h.own2
    have hR := Rd.of_own ho
    have hf : (ws.reverse ++ [(v, u)])[ws.length]? = some (v, u) := by simp
    rw [List.reverse_cons] at hR
    obtain ⟨b', off', e, hbl, hcell⟩ := hR.field lvE_len hf (by omega)
    rw [hLA] at e
    injection e with e
    injection e with e1 e2
    subst e1 e2
    refine ⟨st.length, lg, u, v, ws, by omega, hLA, by omega, ha, hb, fun j x hj => ?_, ⟨h.own1, h.prs, h.sm, ?_, h1, rfl, fun b hb hm => h.ne b hb ?_, h.keep⟩⟩
    · have := hcell j x hj
      rwa [hl] at this
    · rw [List.reverse_cons, List.flatMap_append] at ho
      exact own_short ho (by rw [flat_len8, List.length_reverse, hl]) (by omega) (by rw [hLA]; simp)
    · unfold ownL at hm ⊢
      rw [hLA] at hm ⊢
      exact hm
/-- A pair is bound. -/
theorem US.bound (h : US pt at_ w wr s st A m c LA k lc ps ws) {W : World} {n : Int} {t : Tm} {v : TV} {A' : Option Addr} {c' : Nat} (ho : W.ownsRow w.heap.size pt 5 (.slice A' (m + 1) c') (m + 1) ((ps ++ [(n, v)]).flatMap pvE)) (hp : Prs W (fun b => b < w.heap.size) (s ++ [(n, t)]) (ps ++ [(n, v)]))
    (hk : Keeps wr W (ownL (.slice A m c))) (hn : ∀ b ∈ ownL (.slice A' (m + 1) c'), b ∈ ownL (.slice A m c) ∨ wr.heap.size ≤ b) : US pt at_ w W (s ++ [(n, t)]) st A' (m + 1) c' LA k lc (ps ++ [(n, v)]) ws := by
  refine ⟨ho, hp, by simp [h.sm], own_keepL h.own2 hk h.ne, h.lst.keepL hk (fun b hb hlt => by have := (own_lt h.own1 hb).1; omega), h.sk, fun b hb hm => ?_, ⟨hk.os.trans h.keep.os, hk.tape.trans h.keep.tape, hk.output.trans h.keep.output, Nat.le_trans h.keep.size hk.size, fun i hi _ => (hk.block i (Nat.lt_of_lt_of_le hi h.keep.size) (fun hm => by have := (own_lt h.own1 hm).1; omega)).trans (h.keep.block i hi (by simp))⟩⟩
  rcases hn b hb with hb | hb
  · exact h.ne b hb hm
  · have := (own_lt h.own2 hm).2; omega
/-- A pair is put on top. -/
theorem US.pushed (h : US pt at_ w wr s st A m c LA k lc ps ws) {W W2 : World} (kk : Keeps wr W []) {a b : Tm} {u v : TV} (ha : Tr wr (fun b => b < w.heap.size) a u) (hb : Tr wr (fun b => b < w.heap.size) b v) {LA' : Option Addr} {lc' : Nat}
    (ho : W2.ownsRow w.heap.size at_ 8 (.slice LA' (k + 1) lc') (k + 1) (ws.reverse.flatMap lvE ++ lvE (v, u))) (hg : W.grownBy W2 (Value.slice LA k lc).ownBlock)
    (hat : (Value.slice LA' (k + 1) lc').ownBlock = (Value.slice LA k lc).ownBlock ∨ (Value.slice LA' (k + 1) lc').ownBlock = some W.heap.size) : US pt at_ w W2 s ((a, b) :: st) A m c LA' (k + 1) lc' ps ((v, u) :: ws) := by
  have h0 := h.keep0 kk
  have kg : Keeps W W2 (ownL (.slice LA k lc)) := Keeps.ofGrown hg
  have hlow : ∀ b ∈ ownL (.slice LA k lc), ¬ b < w.heap.size := fun b hb hlt => by have := (own_lt h0.own2 hb).1; omega
  refine ⟨own_keepL h0.own1 kg (fun b hb hm => h0.ne b hm hb), h0.prs.keepL kg hlow, h0.sm, ?_, (h0.lst.keepL kg hlow).cons ((ha.keep kk).keepL kg hlow) ((hb.keep kk).keepL kg hlow), by simp [h.sk], fun b hb hm => ?_, h0.keep.app h0.own2 (Nat.le_refl _) hg⟩
  · rw [List.reverse_cons, List.flatMap_append]
    simpa using ho
  · unfold ownL at hm
    simp only [Option.mem_toList] at hm
    rcases hat with h1 | h1
    · rw [h1] at hm
      exact h0.ne b hb (by unfold ownL; simpa using hm)
    · rw [h1] at hm
      simp only [Option.some.injEq] at hm
      subst hm
      have := (own_lt h0.own1 hb).2
      omega
end
/-- .. while parts are put on top: two terms' blocks and parts. -/
structure IP (pt at_ tt : TypeId) (w wi : World) (xb yb : Nat) (X4 Y4 : Array Value) (xl yl : List Tm) (vx vy : List TV) (xA yA : Option Addr) (s : Sbt) (st : List (Tm × Tm)) (A : Option Addr) (m c : Nat) (LA : Option Addr) (k lc : Nat) (ps : List (Int × TV)) (ws : List (TV × TV)) : Prop where
  us : US pt at_ w wi s st A m c LA k lc ps ws
  bx : Blk wi xb tt X4 ∧ xb ∉ ownL (.slice LA k lc)
  by_ : Blk wi yb tt Y4 ∧ yb ∉ ownL (.slice LA k lc)
  tx : Trs wi (fun b => b < w.heap.size) xl vx
  ty : Trs wi (fun b => b < w.heap.size) yl vy
  rx : Rd wi xA (vx.flatMap tvE)
  ry : Rd wi yA (vy.flatMap tvE)
  sx : ∀ b off, xA = some ⟨b, off, none⟩ → xl ≠ [] → b < w.heap.size
  sy : ∀ b off, yA = some ⟨b, off, none⟩ → yl ≠ [] → b < w.heap.size
section
variable {pt at_ tt : TypeId} {w wi : World} {xb yb : Nat} {X4 Y4 : Array Value} {xl yl : List Tm} {vx vy : List TV} {xA yA : Option Addr} {s : Sbt} {st : List (Tm × Tm)} {A : Option Addr} {m c : Nat} {LA : Option Addr} {k lc : Nat} {ps : List (Int × TV)} {ws : List (TV × TV)}
theorem IP.step (h : IP pt at_ tt w wi xb yb X4 Y4 xl yl vx vy xA yA s st A m c LA k lc ps ws) {W W2 : World} (kk : Keeps wi W []) {a b : Tm} {u v : TV} (ha : Tr wi (fun b => b < w.heap.size) a u) (hb : Tr wi (fun b => b < w.heap.size) b v) {LA' : Option Addr} {lc' : Nat}
    (ho : W2.ownsRow w.heap.size at_ 8 (.slice LA' (k + 1) lc') (k + 1) (ws.reverse.flatMap lvE ++ lvE (v, u))) (hg : W.grownBy W2 (Value.slice LA k lc).ownBlock)
    (hat : (Value.slice LA' (k + 1) lc').ownBlock = (Value.slice LA k lc).ownBlock ∨ (Value.slice LA' (k + 1) lc').ownBlock = some W.heap.size) : IP pt at_ tt w W2 xb yb X4 Y4 xl yl vx vy xA yA s ((a, b) :: st) A m c LA' (k + 1) lc' ps ((v, u) :: ws) := by
  have kg : Keeps W W2 (ownL (.slice LA k lc)) := Keeps.ofGrown hg
  have hlow : ∀ b ∈ ownL (.slice LA k lc), ¬ b < w.heap.size := fun b hb hlt => by have := (own_lt h.us.own2 hb).1; omega
  have hno : ∀ b, b < W.heap.size → b ∉ ownL (.slice LA k lc) → b ∉ ownL (.slice LA' (k + 1) lc') := fun b hb hn hm => by
    unfold ownL at hn hm
    simp only [Option.mem_toList] at hn hm
    rcases hat with h1 | h1
    · rw [h1] at hm; exact hn hm
    · rw [h1] at hm; simp at hm; omega
  have hrow : ∀ b, b ∉ ownL (.slice LA k lc) → some b ≠ (Value.slice LA k lc).ownBlock := fun b hn e => hn (by unfold ownL; rw [← e]; simp)
  have bx := h.bx.1.keep kk (by simp)
  have by_ := h.by_.1.keep kk (by simp)
  refine ⟨h.us.pushed kk ha hb ho hg hat, ⟨bx.grown hg (hrow _ h.bx.2), hno _ bx.lt h.bx.2⟩, ⟨by_.grown hg (hrow _ h.by_.2), hno _ by_.lt h.by_.2⟩, (h.tx.keep kk).keepL kg hlow, (h.ty.keep kk).keepL kg hlow, (h.rx.keep kk).keepL kg fun b off e hne hm => ?_, (h.ry.keep kk).keepL kg fun b off e hne hm => ?_, h.sx, h.sy⟩
  · exact hlow b hm (h.sx b off e (flat_ne h.tx.len hne))
  · exact hlow b hm (h.sy b off e (flat_ne h.ty.len hne))
theorem IP.keep0 (h : IP pt at_ tt w wi xb yb X4 Y4 xl yl vx vy xA yA s st A m c LA k lc ps ws) {W : World} (kk : Keeps wi W []) : IP pt at_ tt w W xb yb X4 Y4 xl yl vx vy xA yA s st A m c LA k lc ps ws :=
  ⟨h.us.keep0 kk, ⟨h.bx.1.keep kk (by simp), h.bx.2⟩, ⟨h.by_.1.keep kk (by simp), h.by_.2⟩, h.tx.keep kk, h.ty.keep kk, h.rx.keep kk, h.ry.keep kk, h.sx, h.sy⟩
end
theorem zip_drop {α β : Type} {l : List α} {m : List β} {j : Nat} {a : α} {b : β} (h1 : l[j]? = some a) (h2 : m[j]? = some b) : (l.zip m).drop j = (a, b) :: (l.zip m).drop (j + 1) := by
  have hz : (l.zip m)[j]? = some (a, b) := by rw [List.getElem?_zip_eq_some]; exact ⟨h1, h2⟩
  obtain ⟨hj, he⟩ := List.getElem?_eq_some_iff.1 hz
  rw [List.drop_eq_getElem_cons hj, he]
end Go.Proofs.Ytjbomjnkjcafcaa

/- What was bound, each put in, rising: the plain law. -/
namespace Go.Proofs.Ytjbomjnkjcafcaa
open Go.RowKit

/-- Keys that rise. -/
def Asc (l : Sbt) : Prop := l.Pairwise fun p q => p.1 < q.1
theorem asc_eq : ∀ {l m : Sbt}, Asc l → Asc m → l.Perm m → l = m
  | [], m, _, _, h => (List.nil_perm.1 h).symm
  | p :: l, m, hl, hm, h => by
    cases m with
    | nil => exact absurd h.symm (by simp)
    | cons q m =>
      have h1 := List.pairwise_cons.1 hl
      have h2 := List.pairwise_cons.1 hm
      have hpq : p = q := by
        have hp : p ∈ q :: m := h.subset (by simp)
        have hq : q ∈ p :: l := h.symm.subset (by simp)
        rcases List.mem_cons.1 hp with e | hp
        · exact e
        · rcases List.mem_cons.1 hq with e | hq
          · exact e.symm
          · have := h1.1 q hq
            have := h2.1 p hp
            omega
      subst hpq
      rw [asc_eq h1.2 h2.2 (List.Perm.cons_inv h)]
theorem insK_perm (l : Sbt) (p : Int × Tm) : (insK l p).Perm (p :: l) := by
  unfold insK
  refine List.perm_middle.trans ?_
  rw [List.takeWhile_append_dropWhile]
theorem insK_asc {l : Sbt} (h : Asc l) {p : Int × Tm} (hp : ∀ q ∈ l, q.1 ≠ p.1) : Asc (insK l p) := by
  unfold insK
  have hs : Asc (l.takeWhile (fun q => decide (q.1 ≤ p.1)) ++ l.dropWhile (fun q => decide (q.1 ≤ p.1))) := by rw [List.takeWhile_append_dropWhile]; exact h
  have h1 := List.pairwise_append.1 hs
  have hlow : ∀ q ∈ l.takeWhile (fun q => decide (q.1 ≤ p.1)), q.1 < p.1 := fun q hq => by
    have h2 : decide (q.1 ≤ p.1) = true := List.all_eq_true.1 List.all_takeWhile q hq
    have h3 := hp q ((List.takeWhile_sublist _).subset hq)
    simp at h2
    omega
  have hhigh : ∀ q ∈ l.dropWhile (fun q => decide (q.1 ≤ p.1)), p.1 < q.1 := fun q hq => by
    cases hd : l.dropWhile (fun q => decide (q.1 ≤ p.1)) with
    | nil => rw [hd] at hq; cases hq
    | cons x r =>
      have h2 : decide (x.1 ≤ p.1) = false := by
        have := List.head?_dropWhile_not (fun q : Int × Tm => decide (q.1 ≤ p.1)) l
        rw [hd] at this
        simpa using this
      have h3 : p.1 < x.1 := by simp at h2; omega
      rw [hd] at hq
      rcases List.mem_cons.1 hq with rfl | hq
      · exact h3
      · have h4 := h1.2.1
        rw [hd] at h4
        have := (List.pairwise_cons.1 h4).1 q hq
        omega
  refine List.pairwise_append.2 ⟨h1.1, List.pairwise_cons.2 ⟨hhigh, h1.2.1⟩, fun q hq r hr => ?_⟩
  rcases List.mem_cons.1 hr with rfl | hr
  · exact hlow q hq
  · have := hlow q hq
    have := hhigh r hr
    omega
theorem ins_all : ∀ (l acc : Sbt), Asc acc → (acc.map (·.1) ++ l.map (·.1)).Nodup → Asc (l.foldl insK acc) ∧ (l.foldl insK acc).Perm (acc ++ l)
  | [], acc, h, _ => ⟨h, by simp⟩
  | p :: l, acc, h, hn => by
    rw [List.foldl_cons]
    have hp : ∀ q ∈ acc, q.1 ≠ p.1 := fun q hq e => by
      have := (List.nodup_append.1 hn).2.2 q.1 (List.mem_map_of_mem hq) p.1 (by simp)
      exact this e
    have hperm := insK_perm acc p
    have hk : ((insK acc p).map (·.1) ++ l.map (·.1)).Perm (acc.map (·.1) ++ (p :: l).map (·.1)) := by
      rw [List.map_cons]
      refine ((hperm.map (·.1)).append_right _).trans ?_
      rw [List.map_cons]
      exact List.perm_middle.symm
    obtain ⟨h1, h2⟩ := ins_all l (insK acc p) (insK_asc h hp) (hk.nodup_iff.2 hn)
    refine ⟨h1, h2.trans ?_⟩
    exact (hperm.append_right l).trans List.perm_middle.symm
/-- What is put in, unsorted. -/
def putS (s : Sbt) : Sbt := s.map fun p => (p.1, apD s deepest p.2)
theorem solvedT_is {s : Sbt} (hn : (s.map (·.1)).Nodup) : Asc (solvedT s) ∧ (solvedT s).Perm (putS s) := by
  have h := ins_all (putS s) [] List.Pairwise.nil (by unfold putS; simpa [List.map_map, Function.comp_def] using hn)
  exact ⟨h.1, h.2⟩
/-- A sorted row of what holds the terms. -/
theorem Prs.sorted {w : World} {S : Nat → Prop} {s : Sbt} {us us' : List (Int × TV)} (h : Prs w S s us) (hn : (s.map (·.1)).Nodup) {m : Sbt} (ha : Asc m) (hm : m.Perm s) (hp : us'.Perm us) (hs : us'.Pairwise fun x y => x.1 ≤ y.1) : Prs w S m us' := by
  have hkeys : us.map (·.1) = s.map (·.1) := by
    refine List.ext_getElem (by simp [h.len]) fun i h1 h2 => ?_
    simp only [List.length_map] at h1 h2
    simp only [List.getElem_map]
    exact (h.at_ i _ _ (List.getElem?_eq_getElem h2) (List.getElem?_eq_getElem h1)).1
  have hnu : (us'.map (·.1)).Nodup := (hp.map (·.1)).nodup_iff.2 (by rw [hkeys]; exact hn)
  have hT : ∀ x ∈ us, ∃ t, sOf s x.1 = some t ∧ Tr w S t x.2 := fun x hx => by
    obtain ⟨i, hi, rfl⟩ := List.getElem_of_mem hx
    have hi' : i < s.length := by rw [← h.len]; exact hi
    have h1 := h.at_ i _ _ (List.getElem?_eq_getElem hi') (List.getElem?_eq_getElem hi)
    exact ⟨s[i].2, by rw [h1.1]; exact sOf_of_mem hn (List.getElem_mem hi'), h1.2⟩
  have hmap : (us.map fun x => (x.1, (sOf s x.1).getD (vr 0))) = s := by
    refine List.ext_getElem (by simp [h.len]) fun i h1 h2 => ?_
    simp only [List.length_map] at h1
    simp only [List.getElem_map]
    have h3 := h.at_ i _ _ (List.getElem?_eq_getElem h2) (List.getElem?_eq_getElem h1)
    have e : sOf s s[i].1 = some s[i].2 := sOf_of_mem hn (List.getElem_mem h2)
    rw [h3.1, e]
    rfl
  have hasc : Asc (us'.map fun x => (x.1, (sOf s x.1).getD (vr 0))) := by
    unfold Asc
    rw [List.pairwise_map]
    have h1 : us'.Pairwise fun x y => x.1 ≠ y.1 := by rw [List.Nodup, List.pairwise_map] at hnu; exact hnu
    exact (hs.and h1).imp fun ⟨a, b⟩ => by show _ < _; simp only; omega
  have heq : m = us'.map fun x => (x.1, (sOf s x.1).getD (vr 0)) := asc_eq ha hasc ((hm.trans (List.Perm.of_eq hmap.symm)).trans (hp.map _).symm)
  refine ⟨by rw [heq]; simp, fun j p v h1 h2 => ?_⟩
  rw [heq, List.getElem?_map, h2] at h1
  simp only [Option.map_some, Option.some.injEq] at h1
  subst h1
  obtain ⟨t, ht, htr⟩ := hT v (hp.subset (List.mem_of_getElem? h2))
  refine ⟨rfl, ?_⟩
  show Tr w S ((sOf s v.1).getD (vr 0)) v.2
  rw [ht]
  exact htr
end Go.Proofs.Ytjbomjnkjcafcaa

/- slices.insertionSortCmpFunc at pairs: the shelf's contract, laid (out of what the shelf's own printer wrote at the dump). -/
namespace Go.Proofs
open Go.Shelf
def Try.insPair_ren : Go.Shelf.Ren := ⟨fun | 20 => 59 | n => n, fun | 24 => 33 | 22 => 26 | 3 => 3 | 25 => 86 | 4 => 4 | 0 => 0 | n => n, fun | n => n⟩
theorem Try.insPair : Go.Proofs.SlLaysF0.n20 Try.prog Try.insPair_ren := {
  mixed := by kernel_rfl
  f20 := ⟨Try.f59.name, by decide, Try.func59.trans (congrArg some (by kernel_rfl))⟩
  t0 := Try.underlying0
  a0 := Try.isAgg0
  z0 := Try.sizeOf0
  v0 := Try.zeroValue0
  t3 := Try.underlying3
  a3 := Try.isAgg3
  z3 := Try.sizeOf3
  v3 := Try.zeroValue3
  t4 := Try.underlying4
  a4 := Try.isAgg4
  z4 := Try.sizeOf4
  v4 := Try.zeroValue4
  t22 := Try.underlying26
  a22 := Try.isAgg26
  z22 := Try.sizeOf26
  v22 := Try.zeroValue26
  t25 := Try.underlying86
  a25 := Try.isAgg86
  z25 := Try.sizeOf86
  v25 := Try.zeroValue86 }
end Go.Proofs
namespace Go.Proofs.Ytjbomjnkjcafcaa
open Go.RowKit Go.Lib Go.Sort

instance tvInh : Inhabited TV := ⟨⟨0, 0, ⟨#[]⟩, none, 0, 0⟩⟩
theorem ltKey (x y : Int × TV) : ltOf (fun x y : Int × TV => Lib.compareInt x.1 y.1) x y = decide (x.1 < y.1) := by
  unfold ltOf Lib.compareInt
  by_cases h1 : x.1 < y.1
  · simp [h1]
  · by_cases h2 : y.1 < x.1 <;> simp [h1, h2]
theorem swoKey : SWO (ltOf fun x y : Int × TV => Lib.compareInt x.1 y.1) where
  irrefl x := by rw [ltKey]; simp
  trans x y z h1 h2 := by rw [ltKey] at *; simp at *; omega
  ntrans x y z h1 h2 := by rw [ltKey] at *; simp at *; omega
theorem isNaN_any (x : Int) (W : World) : Calls Try.prog 56 #[.int .i64 x] W fun e w' => e = .returned (.bool false) ∧ W = w' := by
  have e1 : (x != x) = false := by simp
  go_enter Try.func56, Try.ntmps56
  go_wp2_with fail
  go_ret
  exact ⟨rfl, rfl⟩
theorem compare_any (x y : Int) (W : World) : Calls Try.prog 45 #[.int .i64 x, .int .i64 y] W fun e w' => e = .returned (.int .i64 (Lib.compareInt x y)) ∧ W = w' := by
  have HN := Lib.hid (isNaN_any)
  by_cases h1 : x < y
  · have HE : Hid (Lib.compareInt x y = -1) := by show _ = _; unfold Lib.compareInt; rw [if_pos h1]
    rw [HE.out]
    go_enter Try.func45, Try.ntmps45
    go_wp2_with (go_at_call 56; refine (HN.out _ _).mono ?_; rintro e w' ⟨rfl, rfl⟩)
    go_ret
    exact ⟨rfl, rfl⟩
  · by_cases h2 : y < x
    · have HE : Hid (Lib.compareInt x y = 1) := by show _ = _; unfold Lib.compareInt; rw [if_neg h1, if_pos h2]
      rw [HE.out]
      go_enter Try.func45, Try.ntmps45
      go_wp2_with (go_at_call 56; refine (HN.out _ _).mono ?_; rintro e w' ⟨rfl, rfl⟩)
      go_ret
      exact ⟨rfl, rfl⟩
    · have HE : Hid (Lib.compareInt x y = 0) := by show _ = _; unfold Lib.compareInt; rw [if_neg h1, if_neg h2]
      rw [HE.out]
      go_enter Try.func45, Try.ntmps45
      go_wp2_with (go_at_call 56; refine (HN.out _ _).mono ?_; rintro e w' ⟨rfl, rfl⟩)
      go_ret
      exact ⟨rfl, rfl⟩
set_option maxHeartbeats 1000000 in
theorem cmpPair (x y : Int × TV) (W : World) : Calls Try.prog 44 #[.agg #[.int .i64 x.1, .int .i64 x.2.k, .int .i64 x.2.n, .string x.2.s, .slice x.2.A x.2.len x.2.c], .agg #[.int .i64 y.1, .int .i64 y.2.k, .int .i64 y.2.n, .string y.2.s, .slice y.2.A y.2.len y.2.c]] W fun e w' => e = .returned (.int .i64 (Lib.compareInt x.1 y.1)) ∧ ∃ q os', w' = grow (W.drewN q) os' := by
  have hcon := fun W' => compare_any x.1 y.1 W'
  generalize Lib.compareInt x.1 y.1 = r at hcon ⊢
  go_enter Try.func44, Try.ntmps44
  go_wp2_with (go_at_call 45; refine (hcon _).mono ?_; rintro e w' ⟨rfl, rfl⟩)
  go_ret
  exact ⟨rfl, 0, _, by rw [alloc_eq_grow, alloc_eq_grow, grow_grow]; rfl⟩
theorem arr_get (us : List (Int × TV)) {i : Nat} (hi : i < us.length) : us.toArray[i]! = us[i] := by
  rw [getElem!_pos us.toArray i (by simpa using hi)]
  simp
theorem flat_at (us : List (Int × TV)) {k : Nat} (hk : k < us.length * 5) : (us.flatMap pvE)[k]? = some ((pvE us.toArray[k / 5]!)[k % 5]!) := by
  have hi : k / 5 < us.length := by omega
  have h1 := getElem?_flat pvE_len us (k / 5) hi (k % 5) (Nat.mod_lt _ (by omega))
  rw [show k / 5 * 5 + k % 5 = k by omega] at h1
  rw [h1, arr_get us hi]
  have hc : k % 5 < (pvE us[k / 5]).length := by rw [pvE_len]; exact Nat.mod_lt _ (by omega)
  rw [getElem!_pos (pvE us[k / 5]) (k % 5) hc, List.getElem?_eq_getElem hc]
/-- The row behind the sort. -/
theorem rd_of_holds {w : World} {blk : Nat} {us : List (Int × TV)} (hb : blk < w.heap.size) (h : HoldsK pvE 5 w blk 0 us.toArray) : Rd w (some ⟨blk, 0, none⟩) (us.flatMap pvE) := by
  intro k hk
  rw [length_flat pvE_len] at hk
  have h1 := (h.cell (i := k / 5) (c := k % 5) (by simp; omega) (Nat.mod_lt _ (by omega))).1
  rw [show 0 + k / 5 * 5 + k % 5 = 0 + k by omega] at h1
  exact ⟨blk, 0, _, rfl, hb, h1, flat_at us hk⟩
theorem holds_of_own {w : World} {base n c : Nat} {e : TypeId} {blk : Nat} {us : List (Int × TV)} (h : w.ownsRow base e 5 (.slice (some ⟨blk, 0, none⟩) n c) n (us.flatMap pvE)) : HoldsK pvE 5 w blk 0 us.toArray ∧ blk < w.heap.size := by
  have hR := Rd.of_own h
  rcases h.2 with ⟨h1, _⟩ | ⟨g, cap, cur, h1, h2, h3, h4, _⟩
  · cases h1
  · injection h1 with h1
    injection h1 with h1
    injection h1 with h1
    subst h1
    refine ⟨fun j hj => ?_, (Array.getElem?_eq_some_iff.1 h3).1⟩
    rw [size_flatK] at hj
    have hj' : j < us.length * 5 := by simpa using hj
    obtain ⟨b, off, v, e1, _, hc, hv⟩ := hR j (by rw [length_flat pvE_len]; exact hj')
    injection e1 with e1
    injection e1 with e1 e2
    subst e1 e2
    rw [flat_at us hj'] at hv
    have hv := Option.some.inj hv
    refine ⟨?_, frozen_of_row w _ _ _ _ h3⟩
    rw [get_flatK _ _ _ _ hj, hc, ← hv]
    rfl
theorem keeps_sort (w : World) (blk n : Nat) (d : Array (Int × TV)) (os : Array Obj) : Keeps w (sortWorldK pvE 5 w blk 0 n d os) [blk] := by
  refine ⟨rfl, rfl, rfl, ?_, fun k hk hn => ?_⟩
  · simp [sortWorldK, size_grow, putRowK, putRow, mapBlock, Sort.ahead]
  · have hne : blk ≠ k := fun e => hn (by simp [e])
    unfold sortWorldK
    rw [heap_grow_old _ _ (by simpa [putRowK, putRow, mapBlock, Sort.ahead] using hk)]
    simp [putRowK, putRow, mapBlock, Sort.ahead, Array.getElem?_modify, hne]

set_option maxHeartbeats 1000000 in
theorem ins_any (base : Nat) (us : List (Int × TV)) (blk n c : Nat) (w : World) (hown : w.ownsRow base 33 5 (.slice (some ⟨blk, 0, none⟩) n c) n (us.flatMap pvE)) (hn : us.length = n) (h12 : n ≤ 12) :
    Calls Try.prog 59 #[.slice (some ⟨blk, 0, none⟩) n c, .int .i64 0, .int .i64 n, .func (.func 44) #[] #[]] w fun e w' => e = .returned (.tuple #[]) ∧ ∃ us' : List (Int × TV), us'.Perm us ∧ us'.Pairwise (fun x y => x.1 ≤ y.1) ∧ Rd w' (some ⟨blk, 0, none⟩) (us'.flatMap pvE) ∧ Keeps w w' [blk] := by
  have eg : ∀ args w, (callFunc 44 args).run Try.prog w = .ok (.enter 44 args) w := enters_of Try.func44 (by kernel_rfl) rfl
  obtain ⟨hH, hb⟩ := holds_of_own hown
  have hsz : us.toArray.size = n := by simpa using hn
  have hcon := AnyQ.insertionSortCmpFunc Try.insPair 5 Try.isAgg33 Try.sizeOf33 pvE pvE_len (fun x v hv => by simp only [pvE, List.mem_cons, List.not_mem_nil, or_false] at hv; rcases hv with rfl | rfl | rfl | rfl | rfl <;> rfl) (fun x y => Lib.compareInt x.1 y.1) 44 #[] blk 0 c 0 n us.toArray w eg (fun _ _ _ _ x y => cmpPair x y _) hH hb (Nat.zero_le _) (by omega) (by omega)
  rw [hsz] at hcon
  change Calls Try.prog 59 _ _ _ at hcon
  refine hcon.mono ?_
  rintro e w' ⟨rfl, q, os, rfl⟩
  have hs := insertionSort_holds (lt := ltOf fun x y : Int × TV => Lib.compareInt x.1 y.1) swoKey us.toArray 0 n (Nat.zero_le _) (by omega)
  obtain ⟨⟨h1, _, h3⟩, h4⟩ := hs
  generalize Sort.insertionSort (ltOf fun x y : Int × TV => Lib.compareInt x.1 y.1) us.toArray 0 n = d at h1 h3 h4 ⊢
  have hd : d.size = n := by rw [h1]; exact hsz
  refine ⟨rfl, d.toList, ?_, ?_, ?_, keeps_sort w blk q d os⟩
  · have e1 : d.extract 0 n = d := by rw [← hd]; simp
    have e2 : us.toArray.extract 0 n = us.toArray := by rw [← hsz]; simp
    rw [e1, e2] at h3
    simpa using h3
  · refine List.pairwise_iff_getElem.2 fun i j hi hj hij => ?_
    have h5 := h4 i j (Nat.zero_le _) hij (by simpa [hd] using hj)
    rw [ltKey] at h5
    have hi' : i < d.size := by simpa using hi
    have hj' : j < d.size := by simpa using hj
    rw [getElem!_pos d i hi', getElem!_pos d j hj'] at h5
    simp only [Array.getElem_toList]
    simp at h5
    omega
  · refine rd_of_holds ?_ ?_
    · exact Nat.lt_of_lt_of_le hb (keeps_sort w blk q d os).size
    · have h6 : HoldsK pvE 5 (sortWorldK pvE 5 w blk 0 q d os) blk 0 d := by
        unfold sortWorldK
        refine holdsK_grow (enc := pvE) (k := 5) _ _ _ _ _ ?_ ?_
        · simpa [putRowK, putRow, mapBlock, Sort.ahead] using hb
        · exact holdsK_putRowK (enc := pvE) (k := 5) _ _ _ us.toArray d (holdsK_ahead pvE 5 _ _ _ _ _ hH) h1
      simpa using h6
end Go.Proofs.Ytjbomjnkjcafcaa

/- slices.SortFunc on pairs. -/
namespace Go.Proofs.Ytjbomjnkjcafcaa
open Go.RowKit
def SortDone (A : Option Addr) (n c : Nat) (us : List (Int × TV)) (w : World) (e : Ending) (w' : World) : Prop := e = .returned (.tuple #[]) ∧ ∃ us' : List (Int × TV), us'.Perm us ∧ us'.Pairwise (fun x y => x.1 ≤ y.1) ∧ Rd w' A (us'.flatMap pvE) ∧ Keeps w w' (ownL (.slice A n c))
set_option maxHeartbeats 1000000 in
theorem ins0_any (A : Option Addr) (c : Nat) (w : World) : Calls Try.prog 59 #[.slice A 0 c, .int .i64 0, .int .i64 0, .func (.func 44) #[] #[]] w fun e w' => e = .returned (.tuple #[]) ∧ w = w' := by
  go_enter Try.func59, Try.ntmps59
  go_wp2_with fail
  go_loopw [8] (fun x wr => x = .int .i64 1 ∧ wr = w) (fun _ _ => 0)
  case atStart => exact ⟨rfl, rfl⟩
  case round =>
    obtain ⟨rfl, rfl⟩ := hrel
    go_wp2_with fail
    go_end0
    exact ⟨rfl, rfl⟩
theorem insAll_any (base : Nat) (us : List (Int × TV)) (A : Option Addr) (n c : Nat) (w : World) (hown : w.ownsRow base 33 5 (.slice A n c) n (us.flatMap pvE)) (hn : us.length = n) (h12 : n ≤ 12) :
    Calls Try.prog 59 #[.slice A n c, .int .i64 0, .int .i64 n, .func (.func 44) #[] #[]] w (SortDone A n c us w) := by
  cases n with
  | zero =>
    refine (ins0_any A c w).mono ?_
    rintro e w' ⟨rfl, rfl⟩
    exact ⟨rfl, us, List.Perm.refl _, by rw [List.length_eq_zero_iff.1 hn]; exact List.Pairwise.nil, Rd.of_own hown, Keeps.refl _ _⟩
  | succ n =>
    have : ∃ g, A = some ⟨g, 0, none⟩ := by
      rcases hown.2 with ⟨_, h1⟩ | ⟨g, cap, cur, h1, _⟩
      · omega
      · injection h1 with h1; exact ⟨g, h1⟩
    obtain ⟨g, rfl⟩ := this
    exact (ins_any base us g (n + 1) c w hown hn h12).mono fun e w' h => by simpa [SortDone, ownL, Value.ownBlock] using h
set_option maxHeartbeats 1000000 in
theorem pdq_any (base : Nat) (us : List (Int × TV)) (A : Option Addr) (n c : Nat) (lim : Int) (w : World) (hown : w.ownsRow base 33 5 (.slice A n c) n (us.flatMap pvE)) (hn : us.length = n) (h12 : n ≤ 12) :
    Calls Try.prog 54 #[.slice A n c, .int .i64 0, .int .i64 n, .int .i64 lim, .func (.func 44) #[] #[]] w (SortDone A n c us w) := by
  have HC := Lib.hid (insAll_any base us A n c w hown hn h12)
  have b1 : ((n : Int) ≤ 12) := by omega
  have b2 : wrap64 ((n : Int) - 0) = (n : Int) := by unfold wrap64; omega
  have b3 : wrap64 (n : Int) = (n : Int) := by unfold wrap64; omega
  clear hown hn
  go_enter Try.func54, Try.ntmps54
  go_wp2
  refine wp_loop_rounds 1 ?_
  rw [rounds_succ]
  go_wp2_with (go_at_call 59; refine HC.out.mono ?_; rintro e w' ⟨rfl, hd⟩)
  (try simp only [Exit.inBlock, Exit.then])
  exact bodyPost_ret (results_none rfl _ _ _) rfl ⟨rfl, hd⟩
theorem sort_any (base : Nat) (us : List (Int × TV)) (A : Option Addr) (n c : Nat) (w : World) (hown : w.ownsRow base 33 5 (.slice A n c) n (us.flatMap pvE)) (hn : us.length = n) (h12 : n ≤ 12) :
    Calls Try.prog 43 #[.slice A n c, .func (.func 44) #[] #[]] w (SortDone A n c us w) := by
  have HC := fun lim => pdq_any base us A n c lim w hown hn h12
  have HL := Try.bits_Len (n : Int) w (by omega) (by omega)
  have b3 : IntKind.u64.wrap (n : Int) = (n : Int) := by simp only [IntKind.wrap, IntKind.bits, IntKind.signed, Bool.false_and, Bool.false_eq_true, if_false]; omega
  generalize (Lib.bitLen (n : Int).toNat : Int) = q at HL
  have HC := Lib.hid (HC q)
  have HL := Lib.hid HL
  clear hown hn
  go_enter Try.func43, Try.ntmps43
  go_wp2_with (first | (go_at_call 55; refine HL.out.mono ?_; rintro e w' ⟨rfl, rfl⟩) | (go_at_call 54; refine HC.out.mono ?_; rintro e w' ⟨rfl, hd⟩))
  go_end0
  exact ⟨rfl, hd⟩
end Go.Proofs.Ytjbomjnkjcafcaa

/- The program's solved. Printed by gen_mgsolved.py. -/
namespace Go.Proofs.Ytjbomjnkjcafcaa
open Go.RowKit

set_option maxRecDepth 100000 in
set_option maxHeartbeats 3200000 in
theorem solved_any (s : Sbt) (A : Option Addr) (m c : Nat) (w : World) (hS : Sub w (fun _ => True) s A) (hm : s.length = m) (h6 : m ≤ 6) (hw : ∀ p ∈ s, tWid p.2) (hn : (s.map (·.1)).Nodup) :
    Calls Try.prog 29 #[.slice A m c] w fun e w' => ∃ A' c', e = .returned (.slice A' m c') ∧ Sub w' (fun _ => True) (solvedT s) A' ∧ Keeps w w' [] := by
  have HS : Hid (Sub w (fun b => b < w.heap.size) s A) := hS.here.mono fun b h => h.2
  have HM := Lib.hid hm
  have HW := Lib.hid hw
  have HN := Lib.hid hn
  clear hS hm hw hn
  go_enter Try.func29, Try.ntmps29
  go_wp2_with fail
  go_loopw [3, 8] (fun x3 x8 wr => ∃ (j : Nat) (OA : Option Addr) (oc : Nat) (us : List (Int × TV)), j ≤ m ∧ x8 = .int .i64 j ∧ x3 = .slice OA j oc ∧ wr.ownsRow w.heap.size 33 5 (.slice OA j oc) j (us.flatMap pvE) ∧ Prs wr (fun b => b ∉ ownL (.slice OA j oc)) ((putS s).take j) us ∧ Keeps w wr []) (fun _ i _ => m - (intOf i).toNat)
  case atStart => exact ⟨0, none, 0, [], Nat.zero_le _, rfl, rfl, World.ownsRow_nil _ _ _ _, Prs.nil, Keeps.refl _ _⟩
  case round =>
    obtain ⟨j, OA, oc, us, hj, rfl, rfl, ho, hp, hk⟩ := hrel
    have HO := Lib.hid ho
    have HP := Lib.hid hp
    have HK := Lib.hid hk
    clear ho hp
    by_cases hlt : j < m
    · obtain ⟨⟨x, t⟩, hx⟩ := at_of HM.out hlt
      obtain ⟨v', b, off, htr, rfl, hb, p0, p1, p2, p3, p4⟩ := (HS.out.keep hk).get hx
      have HX := Lib.hid hx
      have HTr := Lib.hid htr
      have b0 : (0 : Int) ≤ (j : Int) := Int.natCast_nonneg _
      have b1 : (j : Int) < (m : Int) := by omega
      clear hx htr hk
      go_upto_region 5 with fail
      have ka : Keeps wr (wr.alloc (.cells #[.int .i64 x, .int .i64 v'.k, .int .i64 v'.n, .string v'.s, .slice v'.A v'.len v'.c] 33)) [] := (Keeps.refl wr []).alloc _
      have HE : Hid (Blk (wr.alloc (.cells #[.int .i64 x, .int .i64 v'.k, .int .i64 v'.n, .string v'.s, .slice v'.A v'.len v'.c] 33)) wr.heap.size 33 #[.int .i64 x, .int .i64 v'.k, .int .i64 v'.n, .string v'.s, .slice v'.A v'.len v'.c]) := Blk.new _ _ _
      have hno : wr.heap.size ∉ ownL (.slice OA j oc) := fun hm => by have := (own_lt HO.out hm).2; omega
      generalize wr.alloc (.cells #[.int .i64 x, .int .i64 v'.k, .int .i64 v'.n, .string v'.s, .slice v'.A v'.len v'.c] 33) = wa at *
      have HO1 := Lib.hid (own_keep0 HO.out ka)
      have HP1 := Lib.hid (HP.out.keep ka)
      have HK1 := Lib.hid (HK.out.trans ka)
      have HTr1 := Lib.hid (HTr.out.keep ka)
      generalize wr.heap.size = eb at *
      have HW1 : Hid (∀ W', Keeps wa W' (ownL (.slice OA j oc)) → (W'.cell? ⟨eb, 0, none⟩ = some (.int .i64 x) ∧ W'.cell? ⟨eb, 1, none⟩ = some (.int .i64 v'.k) ∧ W'.cell? ⟨eb, 2, none⟩ = some (.int .i64 v'.n) ∧ W'.cell? ⟨eb, 3, none⟩ = some (.string v'.s) ∧ W'.cell? ⟨eb, 4, none⟩ = some (.slice v'.A v'.len v'.c))) := fun W' kk =>
        have e := HE.out.keep kk hno
        ⟨e.cell 0, e.cell 1, e.cell 2, e.cell 3, e.cell 4⟩
      have HC : Hid (∀ w', Keeps wa w' [] → Calls Try.prog 10 #[.slice (some ⟨b, off, none⟩) m c, .agg #[.int .i64 v'.k, .int .i64 v'.n, .string v'.s, .slice v'.A v'.len v'.c]] w' (ApDone (fun b => b < w.heap.size) w' (apD s deepest t))) := fun w' kk => applyTop_any s _ m c HM.out (by omega) HW.out t v' w' (fun b => b < w.heap.size) (fun b hb => Nat.lt_of_lt_of_le hb (HK1.out.trans kk).size) (HTr1.out.keep kk) (HW.out _ (List.mem_of_getElem? HX.out)) (HS.out.keep (HK1.out.trans kk))
      clear ka HE hno HO HP HK HTr p0 p1 p2 p3 p4
      refine wp_region_tx (fun W' => W'.cell? ⟨eb, 0, none⟩ = some (.int .i64 x) ∧ W'.cell? ⟨eb, 1, none⟩ = some (.int .i64 v'.k) ∧ W'.cell? ⟨eb, 2, none⟩ = some (.int .i64 v'.n) ∧ W'.cell? ⟨eb, 3, none⟩ = some (.string v'.s) ∧ W'.cell? ⟨eb, 4, none⟩ = some (.slice v'.A v'.len v'.c)) [(0, true), (1, true), (2, true), (3, true), (4, true), (5, true), (6, false), (7, true), (8, false), (9, false), (10, false)] (by kernel_rfl) (by kernel_rfl) (HW1.out _ ((Keeps.refl _ _).drew)) (fun hHeld => ?_)
      (repeat (first | (refine wpTx_take (v := ?_) rfl (by assumption) ?_ (by rfl) ?_; rotate_left; (focus (intro w' hSw; (try dsimp only at hSw); go_simp; (try with_reducible rfl); done)); simp only [Act.put, List.setIfInBounds_toArray, List.set_cons_zero, List.set_cons_succ]) | (refine wpTx_skip rfl (by assumption) (by rfl) ?_; simp only [Act.put, List.setIfInBounds_toArray, List.set_cons_zero, List.set_cons_succ])))
      refine wpTx_go rfl (fun K hK => ?_)
      go_simp
      refine (HC.out _ (Keeps.refl _ []).drew).mono ?_
      rintro e w3 ⟨u, rfl, hu, k3⟩
      have HU : Hid (Tr w3 (fun b => b < w.heap.size ∨ wa.heap.size ≤ b) (apD s deepest t) u) := hu
      unfold tvV
      clear hu
      refine hK.out _ _ ?_ ?_
      · exact HW1.out _ (((Keeps.refl _ []).drew.trans k3).to_ _)
      (clear hHeld; intro hHeld; clear hK K; (try simp only [Act.put, List.setIfInBounds_toArray, List.set_cons_zero, List.set_cons_succ]))
      (repeat (first | (refine wpTx_take (v := ?_) rfl (by assumption) ?_ (by rfl) ?_; rotate_left; (focus (intro w' hSw; (try dsimp only at hSw); go_simp; (try with_reducible rfl); done)); simp only [Act.put, List.setIfInBounds_toArray, List.set_cons_zero, List.set_cons_succ]) | (refine wpTx_skip rfl (by assumption) (by rfl) ?_; simp only [Act.put, List.setIfInBounds_toArray, List.set_cons_zero, List.set_cons_succ])))
      refine wpTx_go rfl (fun K hK => ?_)
      go_simp
      refine hK.out _ _ ?_ ?_
      · exact HW1.out _ ((((Keeps.refl _ []).drew.trans k3).alloc _).to_ _)
      (clear hHeld; intro hHeld; clear hK K; (try simp only [Act.put, List.setIfInBounds_toArray, List.set_cons_zero, List.set_cons_succ]))
      refine wpTx_go rfl (fun K hK => ?_)
      refine step_app _ el_pair (by rfl) _ _ (by rfl) w.heap.size OA j oc (us.flatMap pvE) (by rfl) (own_keep0 HO1.out (((Keeps.refl _ []).drew.trans k3).alloc _)) (some ⟨w3.heap.size, 0, none⟩) 1 1 (pvE (x, u)) (by rfl) (Rd.one w3 _ (pvE (x, u))) rfl (by simp) (by simp [pvE, Value.oneCell']) (by omega) (by simp; have := HK1.out.size; have := k3.size; simp at this; omega) ?_
      intro A' c' w2 hown hgrow hat
      have K5 : Keeps wa (w3.alloc (.cells #[.int .i64 x, .int .i64 u.k, .int .i64 u.n, .string u.s, .slice u.A u.len u.c] 33)) [] := ((Keeps.refl _ []).drew.trans k3).alloc _
      have kg : Keeps (w3.alloc (.cells #[.int .i64 x, .int .i64 u.k, .int .i64 u.n, .string u.s, .slice u.A u.len u.c] 33)) w2 (ownL (.slice OA j oc)) := Keeps.ofGrown hgrow
      have hno : ∀ b, b < (w3.alloc (.cells #[.int .i64 x, .int .i64 u.k, .int .i64 u.n, .string u.s, .slice u.A u.len u.c] 33)).heap.size → b ∉ ownL (.slice OA j oc) → b ∉ ownL (.slice A' (j + 1) c') := fun b hb hn hm => by
        unfold ownL at hn hm
        simp only [Option.mem_toList] at hn hm
        rcases hat with h | h
        · rw [h] at hm; exact hn hm
        · rw [h] at hm
          simp only [Option.some.injEq] at hm
          omega
      have HN2 : Hid (w2.ownsRow w.heap.size 33 5 (.slice A' (j + 1) c') (j + 1) ((us ++ [(x, u)]).flatMap pvE) ∧ Prs w2 (fun b => b ∉ ownL (.slice A' (j + 1) c')) ((putS s).take (j + 1)) (us ++ [(x, u)]) ∧ Keeps w w2 []) := by
        refine ⟨by rw [List.flatMap_append]; simpa using hown, ?_, HK1.out.trans K5 |>.app (own_keep0 HO1.out K5) (Nat.le_refl _) hgrow⟩
        have htk : (putS s).take (j + 1) = (putS s).take j ++ [(x, apD s deepest t)] := by
          have : (putS s)[j]? = some (x, apD s deepest t) := by unfold putS; rw [List.getElem?_map, HX.out]; rfl
          rw [List.take_add_one, this]
          rfl
        rw [htk]
        have h1 := ((HP1.out.keep K5).here.keepL kg (fun b hb h => h.1 hb)).mono (S' := fun b => b ∉ ownL (.slice A' (j + 1) c')) fun b hb => hno b hb.2 hb.1
        have h2 : Tr (w3.alloc (.cells #[.int .i64 x, .int .i64 u.k, .int .i64 u.n, .string u.s, .slice u.A u.len u.c] 33)) (fun b => b ∉ ownL (.slice OA j oc)) (apD s deepest t) u := (HU.out.keep ((Keeps.refl w3 []).alloc _)).mono fun b hb hm => by
          have := own_lt HO1.out hm
          omega
        exact h1.snoc ((h2.here.keepL kg (fun b hb h => h.1 hb)).mono fun b hb => hno b hb.2 hb.1)
      clear hown hat hno
      refine hK.out _ _ ?_ ?_
      · exact HW1.out _ (((Keeps.refl _ []).drew.trans k3).alloc _ |>.rest (Keeps.ofGrown hgrow))
      (clear hHeld; intro hHeld; clear hK K; (try simp only [Act.put, List.setIfInBounds_toArray, List.set_cons_zero, List.set_cons_succ]))
      refine wpTx_last rfl (fun K hK => ?_)
      go_simp
      refine hK.out _ _ (NoPanic.normal ?_); clear hK K; (try simp only [Act.put, List.setIfInBounds_toArray, List.set_cons_zero, List.set_cons_succ])
      clear hgrow K5 kg k3 HU HO1 HP1 HC HW1
      go_wp2_with fail
      go_roundw
      case rel => exact ⟨j + 1, A', c', _, by omega, by go_num, rfl, HN2.out.1, HN2.out.2.1, HN2.out.2.2⟩
      case measure => simp [intOf]; omega
    · obtain rfl : m = j := by omega
      have hpl : (putS s).length = m := by unfold putS; rw [List.length_map]; exact HM.out
      have htk : (putS s).take m = putS s := List.take_of_length_le (by omega)
      rw [htk] at HP
      have HC := Lib.hid (sort_any w.heap.size us OA m oc wr HO.out (by have := HP.out.len; omega) (by omega))
      clear hlt hj htk hpl
      go_wp2_with fail
      refine HC.out.mono ?_
      rintro e w5 ⟨rfl, us', hperm, hsrt, hR, hk5⟩
      have HD : Hid (Sub w5 (fun _ => True) (solvedT s) OA) := by
        have h1 := HP.out.keepL hk5 (fun b hb h => h hb)
        have hkn : ((putS s).map (·.1)).Nodup := by unfold putS; rw [List.map_map]; exact HN.out
        have h2 := solvedT_is HN.out
        exact ⟨⟨us', (h1.sorted hkn h2.1 h2.2 hperm hsrt).mono fun _ _ => trivial, hR⟩⟩
      have HK5 : Hid (Keeps w w5 []) := HK.out.past6 hk5 (fun q hq => .inr (own_lt HO.out hq).1)
      clear hperm hsrt hR hk5 HC
      go_wp2_with fail
      go_ret
      exact ⟨OA, oc, rfl, HD.out, HK5.out⟩
end Go.Proofs.Ytjbomjnkjcafcaa
