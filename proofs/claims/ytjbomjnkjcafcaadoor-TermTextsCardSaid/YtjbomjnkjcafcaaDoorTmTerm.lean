/- The program's reader: terms. -/
import Derived.Test.YtjbomjnkjcafcaaDoorTmNum
import Derived.Test.YtjbomjnkjcafcaaDoorTmMk
namespace Go.Proofs.YtjbomjnkjcafcaaDoor
open Go.RowKit

/-- A reader's state: what is left; none: it is bad. -/
def RS (w0 : World) (rb : Nat) (o : Option Txt) (w : World) : Prop := (∀ l, o = some l → RSt w0 w rb l false) ∧ (o = none → ∃ l, RSt w0 w rb l true)
theorem RS.of {w0 w : World} {rb : Nat} {l : Txt} (h : RSt w0 w rb l false) : RS w0 rb (some l) w := ⟨fun l' e => by cases e; exact h, fun e => by cases e⟩
theorem RS.bad {w0 w : World} {rb : Nat} {l : Txt} (h : RSt w0 w rb l true) : RS w0 rb none w := ⟨fun l' e => (by cases e), fun _ => ⟨l, h⟩⟩
theorem RS.keep {w0 w w' : World} {rb : Nat} {o : Option Txt} (h : RS w0 rb o w) (k : Keeps w w' []) : RS w0 rb o w' := ⟨fun l e => (h.1 l e).keep k, fun e => by obtain ⟨l, hl⟩ := h.2 e; exact ⟨l, hl.keep k⟩⟩
theorem RS.lt {w0 w : World} {rb : Nat} {o : Option Txt} (h : RS w0 rb o w) : rb < w.heap.size := by
  cases o with
  | none => obtain ⟨l, hl⟩ := h.2 rfl; exact hl.blk.lt
  | some l => exact (h.1 l rfl).blk.lt
def wantO (c : UInt8) (o : Option Txt) : Option Txt := o.bind fun l => if l.head? = some c then some l.tail else none
def TermDone (w0 w : World) (rb : Nat) (r : Option (Tm × Txt)) (e : Ending) (w' : World) : Prop :=
  ∃ t v, e = .returned (tvV v) ∧ Tr w' (fun b => w.heap.size ≤ b) t v ∧ Keeps w w' [rb] ∧ RS w0 rb (r.map (·.2)) w' ∧ ∀ x, r = some x → t = x.1
theorem Tr.leaf (w : World) (S : Nat → Prop) (k n : Int) (s : ByteArray) (hs : s.size ≤ 9223372036854775807) : Tr w S (.mk k n s []) ⟨k, n, s, none, 0, 0⟩ :=
  .mk k n s [] none 0 [] rfl Rd.nil (fun b off e => by cases e) (fun _ => rfl) ⟨hs, by simp⟩ (fun j t v h => by simp at h)
/-- Setting a new block's cells. -/
theorem keeps_set4 {w : World} {L : List Nat} {wr : World} (k : Keeps w wr L) {g : Nat} (hg : w.heap.size ≤ g) (v0 v1 v2 v3 : Value) : Keeps w ((((wr.setCell ⟨g, 0, none⟩ v0).setCell ⟨g, 1, none⟩ v1).setCell ⟨g, 2, none⟩ v2).setCell ⟨g, 3, none⟩ v3) L :=
  (((k.setCell (.inr hg) _).setCell (.inr hg) _).setCell (.inr hg) _).setCell (.inr hg) _
theorem keeps_self4 (wr : World) (g : Nat) (v0 v1 v2 v3 : Value) : Keeps wr ((((wr.setCell ⟨g, 0, none⟩ v0).setCell ⟨g, 1, none⟩ v1).setCell ⟨g, 2, none⟩ v2).setCell ⟨g, 3, none⟩ v3) [g] :=
  ((((Keeps.refl wr [g]).setCell (.inl (by simp)) _).setCell (.inl (by simp)) _).setCell (.inl (by simp)) _).setCell (.inl (by simp)) _
theorem RSt.set4 {w0 wr : World} {rb : Nat} {l : Txt} {bad : Bool} (h : RSt w0 wr rb l bad) {g : Nat} (hg : rb < g) (v0 v1 v2 v3 : Value) : RSt w0 ((((wr.setCell ⟨g, 0, none⟩ v0).setCell ⟨g, 1, none⟩ v1).setCell ⟨g, 2, none⟩ v2).setCell ⟨g, 3, none⟩ v3) rb l bad := by
  have hl := h.low
  have hn : ∀ i, rb ≠ (⟨g, i, none⟩ : Addr).block := fun i => by simp; omega
  exact ⟨h.st, keeps_set4 h.k0 (by omega) _ _ _ _, h.low, (((h.blk.far (hn 0) _).far (hn 1) _).far (hn 2) _).far (hn 3) _, h.few⟩
theorem RS.set4 {w0 wr : World} {rb : Nat} {o : Option Txt} (h : RS w0 rb o wr) {g : Nat} (hg : rb < g) (v0 v1 v2 v3 : Value) : RS w0 rb o ((((wr.setCell ⟨g, 0, none⟩ v0).setCell ⟨g, 1, none⟩ v1).setCell ⟨g, 2, none⟩ v2).setCell ⟨g, 3, none⟩ v3) :=
  ⟨fun l e => (h.1 l e).set4 hg _ _ _ _, fun e => by obtain ⟨l, hl⟩ := h.2 e; exact ⟨l, hl.set4 hg _ _ _ _⟩⟩
/-- A result that was got is handed on: its block is written. -/
theorem TermDone.hand {w0 w wr : World} {rb g : Nat} {r : Option (Tm × Txt)} {t : Tm} {v : TV} (ht : Tr wr (fun b => w.heap.size ≤ b ∧ b ≠ g) t v) (k : Keeps w wr [rb]) (h : RS w0 rb (r.map (·.2)) wr) (hx : ∀ x, r = some x → t = x.1) (hg : w.heap.size ≤ g) (hr : rb < w.heap.size) (v0 v1 v2 v3 : Value) :
    TermDone w0 w rb r (.returned (tvV v)) ((((wr.setCell ⟨g, 0, none⟩ v0).setCell ⟨g, 1, none⟩ v1).setCell ⟨g, 2, none⟩ v2).setCell ⟨g, 3, none⟩ v3) :=
  ⟨t, v, rfl, (ht.keepL (keeps_self4 wr g v0 v1 v2 v3) (fun b hb h => h.2 (by simpa using hb))).mono fun b hb => hb.1, keeps_set4 k hg _ _ _ _, h.set4 (by omega) _ _ _ _, hx⟩
theorem want_o (w0 w : World) (rb : Nat) (o : Option Txt) (c : UInt8) (ci : Int) (hci : ci = (c.toNat : Int)) (h : RS w0 rb o w) :
    Calls Tryd.prog 49 #[.pointer (some ⟨rb, 0, none⟩), .int .u8 ci] w fun e w' => e = .returned (.tuple #[]) ∧ RS w0 rb (wantO c o) w' ∧ Keeps w w' [rb] := by
  cases o with
  | none =>
    obtain ⟨l, hl⟩ := h.2 rfl
    exact (want_no w0 w rb l true ci hl (.inl rfl)).mono fun e w' hh => ⟨hh.1, RS.bad hh.2.1, hh.2.2⟩
  | some l =>
    have hl := h.1 l rfl
    by_cases hc : l.head? = some c
    · have e : wantO c (some l) = some l.tail := by simp [wantO, hc]
      rw [e]
      exact (want_yes w0 w rb l c ci hci hl hc).mono fun e w' hh => ⟨hh.1, RS.of hh.2.1, hh.2.2⟩
    · have e : wantO c (some l) = none := by simp [wantO, hc]
      rw [e]
      refine (want_no w0 w rb l false ci hl (.inr fun d hd hne => hc ?_)).mono fun e w' hh => ⟨hh.1, RS.bad hh.2.1, hh.2.2⟩
      rw [hd, hci] at *
      exact congrArg some (UInt8.toNat_inj.1 (by omega))

set_option maxHeartbeats 800000 in
theorem term_bad (w0 w : World) (rb : Nat) (l : Txt) (h : RSt w0 w rb l true) : Calls Tryd.prog 28 #[.pointer (some ⟨rb, 0, none⟩)] w (TermDone w0 w rb none) := by
  have h1 := h.keep ((Keeps.refl w []).alloc (.cells #[.int .i64 0, .int .i64 0, .string ⟨#[]⟩, .slice none 0 0] 29))
  have q1 := h1.blk.cell 1
  have H1 := Lib.hid h1
  have hlt := h.blk.lt
  clear h h1
  unfold TermDone
  go_enter Tryd.func28, Tryd.ntmps28
  go_wp2_with fail
  exact bodyPost_ret (v := .agg #[.int .i64 0, .int .i64 0, .string ⟨#[]⟩, .slice none 0 0]) (by simp [results, Tryd.results28, go_sem, *]) rfl ⟨.mk 0 0 ⟨#[]⟩ [], ⟨0, 0, ⟨#[]⟩, none, 0, 0⟩, rfl, Tr.leaf _ _ _ _ _ (by decide), (Keeps.refl w [rb]).alloc _, RS.bad H1.out, fun x hx => by cases hx⟩
/-- The term of what is left. -/
theorem term_o (w0 w : World) (rb : Nat) (o : Option Txt) (p : Txt → Option (Tm × Txt)) (N : Nat) (ih : ∀ (l : Txt) (w : World), RSt w0 w rb l false → l.length ≤ N → Calls Tryd.prog 28 #[.pointer (some ⟨rb, 0, none⟩)] w (TermDone w0 w rb (p l)))
    (h : RS w0 rb o w) (ho : ∀ l, o = some l → l.length ≤ N) : Calls Tryd.prog 28 #[.pointer (some ⟨rb, 0, none⟩)] w (TermDone w0 w rb (o.bind p)) := by
  cases o with
  | none => obtain ⟨l, hl⟩ := h.2 rfl; exact term_bad w0 w rb l hl
  | some l => exact ih l w (h.1 l rfl) (ho l rfl)
def listR (p : Txt → Option (Tm × Txt)) (l : Txt) : Option (Tm × Txt) := (p l).bind fun x => if x.2.head? = some 124 then (p x.2.tail).bind fun y => if y.2.head? = some 93 then some (.mk 3 0 ⟨#[]⟩ [x.1, y.1], y.2.tail) else none else none
theorem listR_state (p : Txt → Option (Tm × Txt)) (l : Txt) : (listR p l).map (·.2) = wantO 93 (((wantO 124 ((p l).map (·.2))).bind p).map (·.2)) := by
  unfold listR wantO
  cases p l with
  | none => rfl
  | some x =>
    simp only [Option.bind_some, Option.map_some]
    split
    · simp only [Option.bind_some]
      cases p x.2.tail with
      | none => rfl
      | some y =>
        simp only [Option.bind_some, Option.map_some]
        split <;> rfl
    · rfl
theorem listR_some {p : Txt → Option (Tm × Txt)} {l : Txt} {z : Tm × Txt} (h : listR p l = some z) : ∃ x y, p l = some x ∧ (wantO 124 ((p l).map (·.2))).bind p = some y ∧ z.1 = .mk 3 0 ⟨#[]⟩ [x.1, y.1] := by
  unfold listR at h
  unfold wantO
  cases hx : p l with
  | none => rw [hx] at h; cases h
  | some x =>
    rw [hx] at h
    simp only [Option.bind_some, Option.map_some] at h ⊢
    split at h
    · rename_i h1
      rw [if_pos h1]
      simp only [Option.bind_some]
      cases hy : p x.2.tail with
      | none => rw [hy] at h; cases h
      | some y =>
        rw [hy] at h
        simp only [Option.bind_some] at h
        split at h
        · cases h; exact ⟨x, y, rfl, rfl, rfl⟩
        · cases h
    · cases h
theorem pair_tr {w4 : World} {S : Nat → Prop} {a b : Tm} {va vb : TV} (ha : Tr w4 S a va) (hb : Tr w4 S b vb) (hS : S w4.heap.size) (t : TypeId) :
    Tr (w4.alloc (.cells #[.int .i64 va.k, .int .i64 va.n, .string va.s, .slice va.A va.len va.c, .int .i64 vb.k, .int .i64 vb.n, .string vb.s, .slice vb.A vb.len vb.c] t)) S (.mk 3 0 ⟨#[]⟩ [a, b]) ⟨3, 0, ⟨#[]⟩, some ⟨w4.heap.size, 0, none⟩, 2, 2⟩ := by
  have k := (Keeps.refl w4 []).alloc (.cells #[.int .i64 va.k, .int .i64 va.n, .string va.s, .slice va.A va.len va.c, .int .i64 vb.k, .int .i64 vb.n, .string vb.s, .slice vb.A vb.len vb.c] t)
  refine .mk 3 0 ⟨#[]⟩ [a, b] (some ⟨w4.heap.size, 0, none⟩) 2 [va, vb] rfl (by have := Rd.of_blk (Blk.new w4 t #[.int .i64 va.k, .int .i64 va.n, .string va.s, .slice va.A va.len va.c, .int .i64 vb.k, .int .i64 vb.n, .string vb.s, .slice vb.A vb.len vb.c]); simpa [tvE] using this) (fun b off e _ => by cases e; exact hS) (fun e => by cases e) ⟨by decide, by simp⟩ (fun j t v h1 h2 => ?_)
  match j, h1, h2 with
  | 0, h1, h2 => simp at h1 h2; subst h1 h2; exact ha.keep k
  | 1, h1, h2 => simp at h1 h2; subst h1 h2; exact hb.keep k
  | j + 2, h1, _ => simp at h1

set_option maxRecDepth 100000 in
set_option maxHeartbeats 1600000 in
theorem list_any (w0 w : World) (rb : Nat) (l : Txt) (p : Txt → Option (Tm × Txt)) (N : Nat) (h : RSt w0 w rb l false) (ih : ∀ (l : Txt) (w : World), RSt w0 w rb l false → l.length ≤ N → Calls Tryd.prog 28 #[.pointer (some ⟨rb, 0, none⟩)] w (TermDone w0 w rb (p l)))
    (hl : l.length ≤ N) (hp : ∀ l x, p l = some x → x.2.length ≤ l.length) : Calls Tryd.prog 46 #[.pointer (some ⟨rb, 0, none⟩)] w (TermDone w0 w rb (listR p l)) := by
  have hrb := h.blk.lt
  have HK0 : Hid (Keeps w (w.alloc (.cells #[.int .i64 0, .int .i64 0, .string ⟨#[]⟩, .slice none 0 0] 29)) [rb]) := (Keeps.refl w [rb]).alloc _
  have HB0 : Hid (Blk (w.alloc (.cells #[.int .i64 0, .int .i64 0, .string ⟨#[]⟩, .slice none 0 0] 29)) w.heap.size 29 #[.int .i64 0, .int .i64 0, .string ⟨#[]⟩, .slice none 0 0]) := Blk.new _ _ _
  have HC1 := Lib.hid (ih l _ (h.keep ((Keeps.refl w []).alloc (.cells #[.int .i64 0, .int .i64 0, .string ⟨#[]⟩, .slice none 0 0] 29))) hl)
  have HO : Hid (∀ l', wantO 124 ((p l).map (·.2)) = some l' → l'.length ≤ N) := fun l' hh => by
    unfold wantO at hh
    cases hx : p l with
    | none => rw [hx] at hh; cases hh
    | some x =>
      rw [hx] at hh
      simp only [Option.map_some, Option.bind_some] at hh
      split at hh
      · cases hh
        have := hp l x hx
        rw [List.length_tail]
        omega
      · cases hh
  have HI := Lib.hid ih
  have HST := Lib.hid (listR_state p l)
  have HSM : Hid (∀ z, listR p l = some z → ∃ x y, p l = some x ∧ (wantO 124 ((p l).map (·.2))).bind p = some y ∧ z.1 = .mk 3 0 ⟨#[]⟩ [x.1, y.1]) := fun z hz => listR_some hz
  generalize listR p l = R at *
  generalize hr1 : p l = r1 at *
  clear h ih hl hp hr1
  unfold TermDone at HC1
  go_enter Tryd.func46, Tryd.ntmps46
  go_wp2_with fail
  refine HC1.out.mono ?_
  rintro e w1 ⟨t1, v1, rfl, ht1, k1, s1, x1⟩
  have HT1 := Lib.hid (ht1.keep ((Keeps.refl w1 []).alloc (.cells #[.int .i64 v1.k, .int .i64 v1.n, .string v1.s, .slice v1.A v1.len v1.c] 29)))
  have HX1 := Lib.hid x1
  have HS1 := Lib.hid (s1.keep ((Keeps.refl w1 []).alloc (.cells #[.int .i64 v1.k, .int .i64 v1.n, .string v1.s, .slice v1.A v1.len v1.c] 29)))
  have HB1 : Hid (Blk (w1.alloc (.cells #[.int .i64 v1.k, .int .i64 v1.n, .string v1.s, .slice v1.A v1.len v1.c] 29)) w1.heap.size 29 #[.int .i64 v1.k, .int .i64 v1.n, .string v1.s, .slice v1.A v1.len v1.c]) := Blk.new _ _ _
  have HR1 := Lib.hid ((HB0.out.keep k1 (by simp; omega)).alloc (.cells #[.int .i64 v1.k, .int .i64 v1.n, .string v1.s, .slice v1.A v1.len v1.c] 29))
  have HK1 := Lib.hid ((HK0.out.trans k1).alloc (.cells #[.int .i64 v1.k, .int .i64 v1.n, .string v1.s, .slice v1.A v1.len v1.c] 29))
  have hz1 : w.heap.size < w1.heap.size := by have := k1.size; simp at this; omega
  unfold tvV
  clear ht1 k1 s1 x1 HC1 HK0 HB0
  go_wp2_with fail
  refine (want_o w0 _ rb _ 124 124 rfl HS1.out).mono ?_
  rintro e w2 ⟨rfl, s2, k2⟩
  have HT2 := Lib.hid (HT1.out.keepL k2 (fun b hb h => by simp at hb h; omega))
  have HB2 := Lib.hid (HB1.out.keep k2 (by simp; omega))
  have HR2 := Lib.hid (HR1.out.keep k2 (by simp; omega))
  have HK2 := Lib.hid (HK1.out.trans k2)
  have hz2 : w1.heap.size < w2.heap.size := by have := k2.size; simp at this; omega
  have HC2 := Lib.hid (term_o w0 w2 rb _ p N HI.out s2 HO.out)
  unfold TermDone at HC2
  clear s2 k2 HT1 HS1 HB1 HR1 HK1
  go_wp2_with fail
  refine HC2.out.mono ?_
  rintro e w3 ⟨t2, v2, rfl, ht2, k3, s3, x2⟩
  have HU3 := Lib.hid (ht2.keep ((Keeps.refl w3 []).alloc (.cells #[.int .i64 v2.k, .int .i64 v2.n, .string v2.s, .slice v2.A v2.len v2.c] 29)))
  have HX2 := Lib.hid x2
  have HS3 := Lib.hid (s3.keep ((Keeps.refl w3 []).alloc (.cells #[.int .i64 v2.k, .int .i64 v2.n, .string v2.s, .slice v2.A v2.len v2.c] 29)))
  have HT3 := Lib.hid ((HT2.out.keepL k3 (fun b hb h => by simp at hb h; omega)).keep ((Keeps.refl w3 []).alloc (.cells #[.int .i64 v2.k, .int .i64 v2.n, .string v2.s, .slice v2.A v2.len v2.c] 29)))
  have HB3 := Lib.hid ((HB2.out.keep k3 (by simp; omega)).alloc (.cells #[.int .i64 v2.k, .int .i64 v2.n, .string v2.s, .slice v2.A v2.len v2.c] 29))
  have HD3 : Hid (Blk (w3.alloc (.cells #[.int .i64 v2.k, .int .i64 v2.n, .string v2.s, .slice v2.A v2.len v2.c] 29)) w3.heap.size 29 #[.int .i64 v2.k, .int .i64 v2.n, .string v2.s, .slice v2.A v2.len v2.c]) := Blk.new _ _ _
  have HR3 := Lib.hid ((HR2.out.keep k3 (by simp; omega)).alloc (.cells #[.int .i64 v2.k, .int .i64 v2.n, .string v2.s, .slice v2.A v2.len v2.c] 29))
  have HK3 := Lib.hid ((HK2.out.trans k3).alloc (.cells #[.int .i64 v2.k, .int .i64 v2.n, .string v2.s, .slice v2.A v2.len v2.c] 29))
  have hz3 : w2.heap.size ≤ w3.heap.size := k3.size
  unfold tvV
  clear ht2 k3 s3 x2 HC2 HT2 HB2 HR2 HK2
  go_wp2_with fail
  refine (want_o w0 _ rb _ 93 93 rfl HS3.out).mono ?_
  rintro e w4 ⟨rfl, s4, k4⟩
  have hz4 : w3.heap.size < w4.heap.size := by have := k4.size; simp at this; omega
  have b3 := HB3.out.keep k4 (by simp; omega)
  have d3 := HD3.out.keep k4 (by simp; omega)
  have g0 := b3.cell 0
  have g1 := b3.cell 1
  have g2 := b3.cell 2
  have g3 := b3.cell 3
  have e0 := d3.cell 0
  have e1 := d3.cell 1
  have e2 := d3.cell 2
  have e3 := d3.cell 3
  have r4 := (HR3.out.keep k4 (by simp; omega)).alloc (.cells #[.int .i64 v1.k, .int .i64 v1.n, .string v1.s, .slice v1.A v1.len v1.c, .int .i64 v2.k, .int .i64 v2.n, .string v2.s, .slice v2.A v2.len v2.c] 29)
  have r0 := r4.frozen 0
  have r1 := r4.frozen 1
  have r2 := r4.frozen 2
  have r3 := r4.frozen 3
  have rc0 := r4.cell 0
  have rc1 := r4.cell 1
  have rc2 := r4.cell 2
  have rc3 := r4.cell 3
  have HT4 := HT3.out.keepL k4 (fun b hb h => by simp at hb h; omega)
  have HU4 := HU3.out.keepL k4 (fun b hb h => by simp at hb h; omega)
  rw [← HST.out] at s4
  have HD := Lib.hid (TermDone.hand (w0 := w0) (w := w) (g := w.heap.size) (r := R) (pair_tr (S := fun b => w.heap.size ≤ b ∧ b ≠ w.heap.size) (HT4.mono fun b hb => by simp at hb; omega) (HU4.mono fun b hb => by omega) (by omega) 29) ((HK3.out.trans k4).alloc _) (s4.keep ((Keeps.refl w4 []).alloc _)) (fun z hz => by
    obtain ⟨x, y, hx, hy, hzz⟩ := HSM.out z hz
    rw [hzz, HX1.out x hx, HX2.out y hy]) (Nat.le_refl _) hrb (.int .i64 3) (.int .i64 0) (.string ⟨#[]⟩) (.slice (some ⟨w4.heap.size, 0, none⟩) 2 2))
  clear s4 k4 b3 d3 r4 HT4 HU4
  go_wp2_with fail
  exact bodyPost_ret (v := .agg #[.int .i64 3, .int .i64 0, .string ⟨#[]⟩, .slice (some ⟨w4.heap.size, 0, none⟩) 2 2]) (by simp [results, Tryd.results46, go_sem, *]) rfl HD.out
end Go.Proofs.YtjbomjnkjcafcaaDoor
