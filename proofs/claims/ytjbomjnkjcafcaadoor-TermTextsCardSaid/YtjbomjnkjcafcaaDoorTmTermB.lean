/- The program's reader: all terms. -/
import Derived.Test.YtjbomjnkjcafcaaDoorTmTerm
namespace Go.Proofs.YtjbomjnkjcafcaaDoor
open Go.RowKit

theorem pTerm_len {num : Num} (hn : NumOk num) (f : Nat) (l : Txt) (x : Tm × Txt) (h : pTerm num f l = some x) : x.2.length ≤ l.length := by
  have := pTerm_snd hn f l x.1 x.2 h
  rw [this, List.length_append]
  omega
theorem RS.grown {w0 W W2 : World} {rb g base size n c : Nat} {A : Option Addr} {e : TypeId} {xs : List Value} {o : Option Txt} (h : RS w0 rb o W) (hg : W.grownBy W2 (Value.slice A n c).ownBlock) (hr : W.ownsRow base e size (.slice A n c) n xs) (hb : rb < base) (hgb : rb < g) (u : Value) : RS w0 rb o (W2.setCell ⟨g, 3, none⟩ u) := by
  have hno : some rb ≠ (Value.slice A n c).ownBlock := fun e => by have := (hr.lt rb e.symm).1; omega
  have kk : ∀ {w1 : World}, w1.heap.size ≤ rb → Keeps w1 W [] → Keeps w1 (W2.setCell ⟨g, 3, none⟩ u) [] := fun h1 h2 =>
    (h2.grown hg (fun k hk => by have := (hr.lt k hk).1; right; omega)).setCell (.inr (by simp; omega)) u
  have one : ∀ l b, RSt w0 W rb l b → RSt w0 (W2.setCell ⟨g, 3, none⟩ u) rb l b := fun l b h => ⟨h.st, kk h.low h.k0, h.low, (h.blk.grown hg hno).far (by simp; omega) u, h.few⟩
  exact ⟨fun l e => one _ _ (h.1 l e), fun e => by obtain ⟨l, hl⟩ := h.2 e; exact ⟨l, one _ _ hl⟩⟩
def moreR (p : Txt → Option (Tm × Txt)) (l : Txt) : Option (List Tm × Txt) := (p l).bind fun x => (pMore p (x.2.length + 1) x.2).bind fun y => some (x.1 :: y.1, y.2)
def strR (nm : Txt) (r : Option (List Tm × Txt)) : Option (Tm × Txt) := r.bind fun y => if y.2.head? = some 41 then some (.mk 2 0 (stB nm) y.1, y.2.tail) else none
theorem pTerm_str {num : Num} {f : Nat} {l : Txt} (h1 : l.head? ≠ some 88) (h2 : l.head? ≠ some 91) (h3 : l.takeWhile isAl ≠ []) (h4 : (l.dropWhile isAl).head? = some 40) : pTerm num (f + 1) l = strR (l.takeWhile isAl) (moreR (pTerm num f) (l.dropWhile isAl).tail) := by
  rw [pTerm, if_neg h1, if_neg h2, if_neg h3, if_pos h4, strR, moreR]
  cases pTerm num f (l.dropWhile isAl).tail with
  | none => rfl
  | some x =>
    simp only [Option.bind_some]
    cases pMore (pTerm num f) (x.2.length + 1) x.2 with
    | none => rfl
    | some y => rfl
/-- How far the loop over parts has come. -/
structure MoreSt (p : Txt → Option (Tm × Txt)) (R2 : Option (List Tm × Txt)) (N : Nat) (args : List Tm) (j : Nat) (o : Option Txt) : Prop where
  few : j ≤ 10000
  on : ∀ s, o = some s → j + s.length ≤ 10000 ∧ s.length ≤ N ∧ ∃ n, s.length < n ∧ (pMore p n s).map (fun y => (args ++ y.1, y.2)) = R2
  bad : o = none → R2 = none
theorem MoreSt.start {p : Txt → Option (Tm × Txt)} {N : Nat} {l : Txt} {t : Tm} (hl : 1 + l.length ≤ 10000) (hN : l.length ≤ N) (hp : ∀ l x, p l = some x → x.2.length ≤ l.length) (ht : ∀ x, p l = some x → t = x.1) : MoreSt p (moreR p l) N ([] ++ [t]) (0 + 1) ((p l).map (·.2)) := by
  refine ⟨by omega, fun s hs => ?_, fun h => ?_⟩
  · cases hx : p l with
    | none => rw [hx] at hs; cases hs
    | some x =>
      rw [hx] at hs
      simp only [Option.map_some, Option.some.injEq] at hs
      subst hs
      have h1 := hp l x hx
      refine ⟨by omega, by omega, x.2.length + 1, by omega, ?_⟩
      rw [ht x hx, moreR, hx]
      simp only [Option.bind_some]
      cases pMore p (x.2.length + 1) x.2 <;> rfl
  · cases hx : p l with
    | none => rw [moreR, hx]; rfl
    | some x => rw [hx] at h; cases h
theorem MoreSt.step {p : Txt → Option (Tm × Txt)} {R2 : Option (List Tm × Txt)} {N : Nat} {args : List Tm} {j : Nat} {s : Txt} {t : Tm} (h : MoreSt p R2 N args j (some s)) (hc : s.head? = some 44) (hp : ∀ l x, p l = some x → x.2.length ≤ l.length) (ht : ∀ x, p s.tail = some x → t = x.1) : MoreSt p R2 N (args ++ [t]) (j + 1) ((p s.tail).map (·.2)) := by
  obtain ⟨h1, h2, n, h3, h4⟩ := h.on s rfl
  have hs := head_tail hc
  have hlen : s.length = s.tail.length + 1 := by conv => lhs; rw [hs]; rw [List.length_cons]
  cases n with
  | zero => omega
  | succ n =>
    rw [pMore, if_pos hc] at h4
    refine ⟨by omega, fun s' hs' => ?_, fun hn => ?_⟩
    · cases hx : p s.tail with
      | none => rw [hx] at hs'; cases hs'
      | some x =>
        rw [hx] at hs' h4
        simp only [Option.map_some, Option.some.injEq, Option.bind_some] at hs' h4
        subst hs'
        have h5 := hp _ x hx
        refine ⟨by omega, by omega, n, by omega, ?_⟩
        rw [← h4, ht x hx]
        cases pMore p n x.2 with
        | none => rfl
        | some y => simp
    · cases hx : p s.tail with
      | none => rw [hx] at h4; exact h4.symm
      | some x => rw [hx] at hn; cases hn
theorem MoreSt.fin {p : Txt → Option (Tm × Txt)} {R2 : Option (List Tm × Txt)} {N : Nat} {args : List Tm} {j : Nat} {o : Option Txt} (h : MoreSt p R2 N args j o) (hc : ∀ s, o = some s → s.head? ≠ some 44) (nm : Txt) : (strR nm R2).map (·.2) = wantO 41 o ∧ ∀ z, strR nm R2 = some z → Tm.mk 2 0 (stB nm) args = z.1 := by
  cases o with
  | none => rw [h.bad rfl]; exact ⟨rfl, fun z hz => by cases hz⟩
  | some s =>
    obtain ⟨_, _, n, h3, h4⟩ := h.on s rfl
    cases n with
    | zero => omega
    | succ n =>
      rw [pMore, if_neg (hc s rfl)] at h4
      simp only [Option.map_some, List.append_nil] at h4
      rw [← h4]
      unfold strR wantO
      simp only [Option.bind_some]
      refine ⟨by split <;> rfl, fun z hz => ?_⟩
      split at hz
      · cases hz; rfl
      · cases hz
/-- What is left to be read. -/
def rdMu (rb : Nat) (w : World) : Nat := match w.cell? ⟨rb, 1, none⟩, w.cell? ⟨rb, 0, none⟩ with
  | some (.bool false), some (.string s) => s.size + 1
  | _, _ => 0
theorem RS.mu {w0 w : World} {rb : Nat} {o : Option Txt} (h : RS w0 rb o w) : rdMu rb w = (o.map fun l => l.length + 1).getD 0 := by
  cases o with
  | none =>
    obtain ⟨l, hl⟩ := h.2 rfl
    unfold rdMu
    rw [hl.blk.cell 1, hl.blk.cell 0]
    rfl
  | some l =>
    have hl := h.1 l rfl
    unfold rdMu
    rw [hl.blk.cell 1, hl.blk.cell 0]
    show (stB l).size + 1 = l.length + 1
    rw [stB_size]

set_option maxRecDepth 100000 in
set_option maxHeartbeats 6400000 in
theorem term_any (f : Nat) : ∀ (l : Txt) (w0 w : World) (rb : Nat), RSt w0 w rb l false → l.length < f → Calls Tryd.prog 28 #[.pointer (some ⟨rb, 0, none⟩)] w (TermDone w0 w rb (pTerm numP f l)) := by
  induction f with
  | zero => intro l w0 w rb _ h; omega
  | succ f ih =>
    intro l w0 w rb h hl
    have hrb := h.blk.lt
    have hfew := h.few
    have HK0 : Hid (Keeps w (w.alloc (.cells #[.int .i64 0, .int .i64 0, .string ⟨#[]⟩, .slice none 0 0] 29)) [rb]) := (Keeps.refl w [rb]).alloc _
    have HB0 : Hid (Blk (w.alloc (.cells #[.int .i64 0, .int .i64 0, .string ⟨#[]⟩, .slice none 0 0] 29)) w.heap.size 29 #[.int .i64 0, .int .i64 0, .string ⟨#[]⟩, .slice none 0 0]) := Blk.new _ _ _
    have h0 := h.keep ((Keeps.refl w []).alloc (.cells #[.int .i64 0, .int .i64 0, .string ⟨#[]⟩, .slice none 0 0] 29))
    have HS0 := Lib.hid h0
    have q1 := h0.blk.cell 1
    have HP : Hid (∀ l x, pTerm numP f l = some x → x.2.length ≤ l.length) := pTerm_len numP_ok f
    have HI : Hid (∀ (l : Txt) (w : World), RSt w0 w rb l false → l.length ≤ f - 1 → 0 < f → Calls Tryd.prog 28 #[.pointer (some ⟨rb, 0, none⟩)] w (TermDone w0 w rb (pTerm numP f l))) := fun l w hr hl hf => ih l w0 w rb hr (by omega)
    clear h h0 ih
    by_cases c1 : l.head? = some 88
    · have HE : Hid (pTerm numP (f + 1) l = (numP l.tail).bind fun x => some (.mk 0 x.1 ⟨#[]⟩ [], x.2)) := by show _ = _; rw [pTerm, if_pos c1]
      generalize pTerm numP (f + 1) l = R at *
      have HC := Lib.hid (skip_yes w0 _ rb l 88 88 rfl HS0.out c1)
      go_enter Tryd.func28, Tryd.ntmps28
      go_wp2_with fail
      refine HC.out.mono ?_
      rintro e w1 ⟨rfl, h1, k1⟩
      have HN := Lib.hid (number_any w0 w1 rb l.tail h1)
      have HK1 := Lib.hid (HK0.out.trans k1)
      have HB1 := Lib.hid (HB0.out.keep k1 (by simp; omega))
      unfold NumDone at HN
      clear h1 k1 HK0 HB0 HC q1
      go_wp2_with fail
      refine HN.out.mono ?_
      rintro e w2 ⟨n, rfl, k2, hn⟩
      have HK2 := Lib.hid (HK1.out.trans k2)
      have hb2 := HB1.out.keep k2 (by simp; omega)
      have zc0 := hb2.cell 0
      have zf0 := hb2.frozen 0
      have zc1 := hb2.cell 1
      have zf1 := hb2.frozen 1
      have zc2 := hb2.cell 2
      have zf2 := hb2.frozen 2
      have zc3 := hb2.cell 3
      have zf3 := hb2.frozen 3
      have HD := Lib.hid (TermDone.hand (w0 := w0) (w := w) (g := w.heap.size) (r := R) (Tr.leaf w2 (fun b => w.heap.size ≤ b ∧ b ≠ w.heap.size) 0 n ⟨#[]⟩ (by decide)) HK2.out (by
        rw [HE.out]
        cases hx : numP l.tail with
        | none => rw [hx] at hn; obtain ⟨r, hr⟩ := hn; exact RS.bad hr
        | some x => rw [hx] at hn; exact RS.of hn.2) (fun z hz => by
        rw [HE.out] at hz
        cases hx : numP l.tail with
        | none => rw [hx] at hz; cases hz
        | some x => rw [hx] at hn hz; cases hz; rw [hn.1]) (Nat.le_refl _) hrb (.int .i64 0) (.int .i64 n) (.string ⟨#[]⟩) (.slice none 0 0))
      unfold tvV at HD
      clear hn k2 hb2 HK1 HB1 HN
      go_wp2_with fail
      exact bodyPost_ret (v := .agg #[.int .i64 0, .int .i64 n, .string ⟨#[]⟩, .slice none 0 0]) (by simp [results, Tryd.results28, go_sem, *]) rfl HD.out
    have hno1 : ∀ d : UInt8, l.head? = some d → (d.toNat : Int) ≠ 88 := fun d hd e => c1 (by rw [hd]; exact congrArg some (UInt8.toNat_inj.1 (show d.toNat = _ from by simp; omega)))
    have HN1 := Lib.hid (skip_no w0 _ rb l false 88 HS0.out (.inr hno1))
    by_cases c2 : l.head? = some 91
    · have HE : Hid (pTerm numP (f + 1) l = listR (pTerm numP f) l.tail) := by show _ = _; rw [pTerm, if_neg c1, if_pos c2]; rfl
      generalize pTerm numP (f + 1) l = R at *
      have HC := Lib.hid (skip_yes w0 _ rb l 91 91 rfl HS0.out c2)
      have hlen : l.length = l.tail.length + 1 := by conv => lhs; rw [head_tail c2]; rw [List.length_cons]
      go_enter Tryd.func28, Tryd.ntmps28
      go_wp2_with fail
      refine HN1.out.mono ?_
      rintro e w1 ⟨rfl, rfl⟩
      go_wp2_with fail
      refine HC.out.mono ?_
      rintro e w1 ⟨rfl, h1, k1⟩
      have HL := Lib.hid (list_any w0 w1 rb l.tail (pTerm numP f) (f - 1) h1 (fun l w hr hl => HI.out l w hr hl (by omega)) (by omega) HP.out)
      have HK1 := Lib.hid (HK0.out.trans k1)
      have HB1 := Lib.hid (HB0.out.keep k1 (by simp; omega))
      have hz1 : w.heap.size < w1.heap.size := by have := k1.size; simp at this; omega
      unfold TermDone at HL
      rw [← HE.out] at HL
      clear h1 k1 HK0 HB0 HC q1
      go_wp2_with fail
      refine HL.out.mono ?_
      rintro e w2 ⟨t, v, rfl, ht, k2, s2, x2⟩
      have hb2 := HB1.out.keep k2 (by simp; omega)
      have zc0 := hb2.cell 0
      have zf0 := hb2.frozen 0
      have zc1 := hb2.cell 1
      have zf1 := hb2.frozen 1
      have zc2 := hb2.cell 2
      have zf2 := hb2.frozen 2
      have zc3 := hb2.cell 3
      have zf3 := hb2.frozen 3
      have HD := Lib.hid (TermDone.hand (w0 := w0) (w := w) (g := w.heap.size) (r := R) (ht.mono fun b hb => by omega) (HK1.out.trans k2) s2 x2 (Nat.le_refl _) hrb (.int .i64 v.k) (.int .i64 v.n) (.string v.s) (.slice v.A v.len v.c))
      unfold tvV at HD ⊢
      clear ht k2 s2 x2 hb2 HK1 HB1 HL
      go_wp2_with fail
      exact bodyPost_ret (v := .agg #[.int .i64 v.k, .int .i64 v.n, .string v.s, .slice v.A v.len v.c]) (by simp [results, Tryd.results28, go_sem, *]) rfl HD.out
    have hno2 : ∀ d : UInt8, l.head? = some d → (d.toNat : Int) ≠ 91 := fun d hd e => c2 (by rw [hd]; exact congrArg some (UInt8.toNat_inj.1 (show d.toNat = _ from by simp; omega)))
    have HN2 := Lib.hid (skip_no w0 _ rb l false 91 HS0.out (.inr hno2))
    have HWh := Lib.hid (whileAl_any w0 _ rb l false HS0.out)
    obtain ⟨nm, hnm⟩ : ∃ nm, l.takeWhile isAl = nm := ⟨_, rfl⟩
    have hnml : nm.length ≤ l.length := by rw [← hnm]; exact (List.takeWhile_sublist _).length_le
    have HNM := Lib.hid hnm
    rw [hnm] at HWh
    go_enter Tryd.func28, Tryd.ntmps28
    go_wp2_with fail
    refine HN1.out.mono ?_
    rintro e w1 ⟨rfl, rfl⟩
    go_wp2_with fail
    refine HN2.out.mono ?_
    rintro e w1 ⟨rfl, rfl⟩
    go_wp2_with fail
    refine HWh.out.mono ?_
    rintro e w1 ⟨rfl, h1, k1⟩
    have HS1 := Lib.hid (h1.keep ((Keeps.refl w1 []).alloc (.cells #[.int .i64 1, .int .i64 0, .string (stB nm), .slice none 0 0] 29)))
    have HK1 := Lib.hid ((HK0.out.trans k1).alloc (.cells #[.int .i64 1, .int .i64 0, .string (stB nm), .slice none 0 0] 29))
    have HB1 := Lib.hid ((HB0.out.keep k1 (by simp; omega)).alloc (.cells #[.int .i64 1, .int .i64 0, .string (stB nm), .slice none 0 0] 29))
    have HG1 : Hid (Blk (w1.alloc (.cells #[.int .i64 1, .int .i64 0, .string (stB nm), .slice none 0 0] 29)) w1.heap.size 29 #[.int .i64 1, .int .i64 0, .string (stB nm), .slice none 0 0]) := Blk.new _ _ _
    have hz1 : w.heap.size < w1.heap.size := by have := k1.size; simp at this; omega
    obtain ⟨g, hgg⟩ : ∃ g, w1.heap.size = g := ⟨_, rfl⟩
    rw [hgg] at HG1
    have p1 := HS1.out.blk.cell 1
    have pf1 := HS1.out.blk.frozen 1
    have gc2 := HG1.out.cell 2
    clear h1 k1 HK0 HB0 HWh q1 HN1 HN2 hnm
    have hne : g ≠ rb := by omega
    have hBlkW : ∀ (u : Value), Keeps (w1.alloc (.cells #[.int .i64 1, .int .i64 0, .string (stB nm), .slice none 0 0] 29)) ((w1.alloc (.cells #[.int .i64 1, .int .i64 0, .string (stB nm), .slice none 0 0] 29)).setCell ⟨rb, 1, none⟩ u) [rb] := fun u => (Keeps.refl _ [rb]).setCell (.inl (by simp)) u
    by_cases c3 : nm = []
    · have d3 : (stB nm).toList.isEmpty = true := by rw [empty_size, stB_size, c3]; rfl
      have HE : Hid (pTerm numP (f + 1) l = none) := by show _ = _; rw [pTerm, if_neg c1, if_neg c2, if_pos (by rw [HNM.out]; exact c3)]
      clear c3
      go_upto_region 9 with fail
      have hs3 := HS1.out.put (l' := l.dropWhile isAl) (bad' := true) (by have := HS1.out.blk.set_ 1 (.bool true); simpa using this) (hBlkW (.bool true)) HS1.out.few
      generalize (w1.alloc (.cells #[.int .i64 1, .int .i64 0, .string (stB nm), .slice none 0 0] 29)).setCell ⟨rb, 1, none⟩ (.bool true) = w3 at *
      have hb3 := HB1.out.keep hs3.2 (by simp; omega)
      have hg3 := HG1.out.keep hs3.2 (by simp; omega)
      have gb1 := hs3.1.blk.cell 1
      have zc0 := hb3.cell 0
      have zf0 := hb3.frozen 0
      have zc1 := hb3.cell 1
      have zf1 := hb3.frozen 1
      have zc2 := hb3.cell 2
      have zf2 := hb3.frozen 2
      have zc3 := hb3.cell 3
      have zf3 := hb3.frozen 3
      have yc0 := hg3.cell 0
      have yf0 := hg3.frozen 0
      have yc1 := hg3.cell 1
      have yf1 := hg3.frozen 1
      have yc2 := hg3.cell 2
      have yf2 := hg3.frozen 2
      have yc3 := hg3.cell 3
      have yf3 := hg3.frozen 3
      have HD := Lib.hid (TermDone.hand (w0 := w0) (w := w) (g := w.heap.size) (r := none) (Tr.leaf w3 (fun b => w.heap.size ≤ b ∧ b ≠ w.heap.size) 1 0 (stB nm) (by rw [stB_size]; omega)) (HK1.out.trans hs3.2) (RS.bad hs3.1) (fun z hz => by cases hz) (Nat.le_refl _) hrb (.int .i64 1) (.int .i64 0) (.string (stB nm)) (.slice none 0 0))
      rw [← HE.out] at HD
      unfold tvV at HD
      clear hb3 hg3 hs3 d3 p1 pf1 gc2 HB1 HG1 HK1 HS1 hBlkW
      go_wp2_with fail
      exact bodyPost_ret (v := .agg #[.int .i64 1, .int .i64 0, .string (stB nm), .slice none 0 0]) (by simp [results, Tryd.results28, go_sem, *]) rfl HD.out
    have d3 : (stB nm).toList.isEmpty = false := by rw [empty_size, stB_size]; exact decide_eq_false (fun h => c3 (List.length_eq_zero_iff.1 h))
    go_upto_region 9 with fail
    have hs3 := HS1.out.put (l' := l.dropWhile isAl) (bad' := false) (by have := HS1.out.blk.set_ 1 (.bool false); simpa using this) (hBlkW (.bool false)) HS1.out.few
    generalize (w1.alloc (.cells #[.int .i64 1, .int .i64 0, .string (stB nm), .slice none 0 0] 29)).setCell ⟨rb, 1, none⟩ (.bool false) = w3 at *
    have HB3 := Lib.hid (HB1.out.keep hs3.2 (by simp; omega))
    have HG3 := Lib.hid (HG1.out.keep hs3.2 (by simp; omega))
    have HS3 := Lib.hid hs3.1
    have HK3 := Lib.hid (HK1.out.trans hs3.2)
    have gb1 := hs3.1.blk.cell 1
    have hz3 : g < w3.heap.size := HG3.out.lt
    clear hs3 d3 p1 pf1 gc2 HB1 HG1 HK1 HS1 hBlkW
    by_cases c4 : (l.dropWhile isAl).head? = some 40
    case neg =>
      have hno3 : ∀ d : UInt8, (l.dropWhile isAl).head? = some d → (d.toNat : Int) ≠ 40 := fun d hd e => c4 (by rw [hd]; exact congrArg some (UInt8.toNat_inj.1 (show d.toNat = _ from by simp; omega)))
      have HN3 := Lib.hid (skip_no w0 _ rb (l.dropWhile isAl) false 40 HS3.out (.inr hno3))
      have HE : Hid (pTerm numP (f + 1) l = some (.mk 1 0 (stB nm) [], l.dropWhile isAl)) := by show _ = _; rw [pTerm, if_neg c1, if_neg c2, HNM.out, if_neg c3, if_neg c4]
      have zc0 := HB3.out.cell 0
      have zf0 := HB3.out.frozen 0
      have zc1 := HB3.out.cell 1
      have zf1 := HB3.out.frozen 1
      have zc2 := HB3.out.cell 2
      have zf2 := HB3.out.frozen 2
      have zc3 := HB3.out.cell 3
      have zf3 := HB3.out.frozen 3
      have yc0 := HG3.out.cell 0
      have yf0 := HG3.out.frozen 0
      have yc1 := HG3.out.cell 1
      have yf1 := HG3.out.frozen 1
      have yc2 := HG3.out.cell 2
      have yf2 := HG3.out.frozen 2
      have yc3 := HG3.out.cell 3
      have yf3 := HG3.out.frozen 3
      have HD := Lib.hid (TermDone.hand (w0 := w0) (w := w) (g := w.heap.size) (r := some (.mk 1 0 (stB nm) [], l.dropWhile isAl)) (Tr.leaf w3 (fun b => w.heap.size ≤ b ∧ b ≠ w.heap.size) 1 0 (stB nm) (by rw [stB_size]; omega)) HK3.out (RS.of HS3.out) (fun z hz => by cases hz; rfl) (Nat.le_refl _) hrb (.int .i64 1) (.int .i64 0) (.string (stB nm)) (.slice none 0 0))
      rw [← HE.out] at HD
      unfold tvV at HD
      go_wp2_with fail
      refine HN3.out.mono ?_
      rintro e w4 ⟨rfl, rfl⟩
      go_wp2_with fail
      exact bodyPost_ret (v := .agg #[.int .i64 1, .int .i64 0, .string (stB nm), .slice none 0 0]) (by simp [results, Tryd.results28, go_sem, *]) rfl HD.out
    have HE : Hid (pTerm numP (f + 1) l = strR nm (moreR (pTerm numP f) (l.dropWhile isAl).tail)) := by show _ = _; rw [pTerm_str c1 c2 (by rw [HNM.out]; exact c3) c4, HNM.out]
    have hlen : l.length = nm.length + ((l.dropWhile isAl).tail.length + 1) := by
      have h1 := congrArg List.length (take_drop_while isAl l)
      rw [List.length_append, HNM.out] at h1
      have h2 : (l.dropWhile isAl).length = (l.dropWhile isAl).tail.length + 1 := by conv => lhs; rw [head_tail c4]; rw [List.length_cons]
      omega
    have hnpos : 0 < nm.length := List.length_pos_iff.2 c3
    have HC := Lib.hid (skip_yes w0 _ rb _ 40 40 rfl HS3.out c4)
    clear HNM
    generalize hl1 : (l.dropWhile isAl).tail = l1 at *
    go_wp2_with fail
    refine HC.out.mono ?_
    rintro e w4 ⟨rfl, h4, k4⟩
    have HB4 := Lib.hid (HB3.out.keep k4 (by simp; omega))
    have hg4 := HG3.out.keep k4 (by simp; omega)
    have HG4 := Lib.hid hg4
    have HK4 := Lib.hid (HK3.out.trans k4)
    have HS4 := Lib.hid h4
    have yf0 := hg4.frozen 0
    have yc0 := hg4.cell 0
    clear h4 k4 HB3 HG3 HS3 HK3 HC gb1 hg4
    go_upto_region 12 with fail
    have hset : Keeps w4 (w4.setCell ⟨g, 0, none⟩ (.int .i64 2)) [g] := (Keeps.refl w4 [g]).setCell (.inl (by simp)) _
    have hs5 : RSt w0 (w4.setCell ⟨g, 0, none⟩ (.int .i64 2)) rb l1 false := ⟨HS4.out.st, HS4.out.k0.setCell (.inr (by have := HS4.out.low; simp; omega)) _, HS4.out.low, HS4.out.blk.far (by simp; omega) _, HS4.out.few⟩
    have hst5 : TSt 29 (fun b => w.heap.size ≤ b) w (w4.setCell ⟨g, 0, none⟩ (.int .i64 2)) [rb] [(w.heap.size, 29, #[.int .i64 0, .int .i64 0, .string ⟨#[]⟩, .slice none 0 0])] g 2 0 (stB nm) [] [] none 0 0 :=
      TSt.start (by
        intro x hx
        simp only [List.mem_cons, List.not_mem_nil, or_false] at hx
        subst hx
        exact ⟨HB4.out.keep hset (by simp; omega), by simp; omega⟩) (by have := HG4.out.set_ 0 (.int .i64 2); simpa using this) (HK4.out.setCell (.inr (by simp; omega)) _) (by omega) (fun b h => h) (by rw [stB_size]; omega)
    generalize w4.setCell ⟨g, 0, none⟩ (.int .i64 2) = w5 at *
    have HST5 := Lib.hid hst5
    have HS5 := Lib.hid hs5
    clear hset hs5 hst5 yf0 yc0 HB4 HG4 HK4 HS4
    have HW : Hid (∀ W', Keeps w5 W' (rb :: ownL (.slice none 0 0)) → W'.frozen? ⟨g, 3, none⟩ = false ∧ W'.cell? ⟨g, 3, none⟩ = some (.slice none 0 0)) := fun W' kk =>
      have hg : g ∉ rb :: ownL (.slice none 0 0) := by
        simp only [List.mem_cons, not_or]
        exact ⟨by have := HST5.out.low.1; omega, HST5.out.low.2.1⟩
      ⟨(HST5.out.out.keep kk hg).frozen 3, (HST5.out.out.keep kk hg).cell 3⟩
    refine wp_region_tx (fun W' => W'.frozen? ⟨g, 3, none⟩ = false ∧ W'.cell? ⟨g, 3, none⟩ = some (.slice none 0 0)) [(0, true), (1, true), (2, true), (3, false), (4, false), (5, false), (6, true), (7, false)] (by kernel_rfl) (by kernel_rfl) (HW.out _ ((Keeps.refl _ _).drew)) (fun hHeld => ?_)
    (repeat (first | (refine wpTx_take (v := ?_) rfl (by assumption) ?_ (by rfl) ?_; rotate_left; (focus (intro w' hSw; (try dsimp only at hSw); go_simp; (try with_reducible rfl); done)); simp only [Act.put, List.setIfInBounds_toArray, List.set_cons_zero, List.set_cons_succ]) | (refine wpTx_skip rfl (by assumption) (by rfl) ?_; simp only [Act.put, List.setIfInBounds_toArray, List.set_cons_zero, List.set_cons_succ])))
    refine wpTx_go rfl (fun K hK => ?_)
    go_simp
    refine (HI.out l1 _ (RSt.keep HS5.out (Keeps.refl _ []).drew) (by omega) (by omega)).mono ?_
    rintro e w6 ⟨t1, v1, rfl, ht1, k6, s6, x6⟩
    have HT1 := Lib.hid ht1
    have HS6 := Lib.hid s6
    have HX6 := Lib.hid x6
    have K6 : Keeps w5 w6 [rb] := (Keeps.refl _ [rb]).drew.trans k6
    unfold tvV
    clear ht1 s6 x6
    refine hK.out _ _ ?_ ?_
    · exact HW.out _ (K6.more (by intro q _ hq; simp at hq; simp [hq]))
    (clear hHeld; intro hHeld; clear hK K; (try simp only [Act.put, List.setIfInBounds_toArray, List.set_cons_zero, List.set_cons_succ]))
    refine wpTx_go rfl (fun K hK => ?_)
    go_simp
    refine hK.out _ _ ?_ ?_
    · exact HW.out _ ((K6.alloc _).more (by intro q _ hq; simp at hq; simp [hq]))
    (clear hHeld; intro hHeld; clear hK K; (try simp only [Act.put, List.setIfInBounds_toArray, List.set_cons_zero, List.set_cons_succ]))
    refine wpTx_go rfl (fun K hK => ?_)
    have hs6 := (HST5.out.keepL K6 (by simp; omega) (by simp; omega) (by simp; omega)).keep0 ((Keeps.refl w6 []).alloc (.cells #[.int .i64 v1.k, .int .i64 v1.n, .string v1.s, .slice v1.A v1.len v1.c] 29))
    refine step_app _ el_pterm (by rfl) _ _ (by rfl) w.heap.size none 0 0 ([].flatMap tvE) (by rfl) hs6.row (some ⟨w6.heap.size, 0, none⟩) 1 1 (tvE v1) (by rfl) (Rd.one w6 _ (tvE v1)) rfl (by simp) (by simp [tvE, Value.oneCell']) (by omega) (by have := hs6.keep.size; simp at this ⊢; omega) ?_
    intro A' c' w2 hown hgrow hat
    refine hK.out _ _ ?_ ?_
    · exact HW.out _ (((K6.alloc _).more (by intro q _ hq; simp at hq; simp [hq])).trans ((Keeps.ofGrown hgrow).more (by intro q _ hq; simp [hq])))
    (clear hHeld; intro hHeld; clear hK K; (try simp only [Act.put, List.setIfInBounds_toArray, List.set_cons_zero, List.set_cons_succ]))
    (repeat (first | (refine wpTx_take (v := ?_) rfl (by assumption) ?_ (by rfl) ?_; rotate_left; (focus (intro w' hSw; (try dsimp only at hSw); go_simp; (try with_reducible rfl); done)); simp only [Act.put, List.setIfInBounds_toArray, List.set_cons_zero, List.set_cons_succ]) | (refine wpTx_skip rfl (by assumption) (by rfl) ?_; simp only [Act.put, List.setIfInBounds_toArray, List.set_cons_zero, List.set_cons_succ])))
    refine wpTx_last rfl (fun K hK => ?_)
    go_simp
    refine hK.out _ _ (NoPanic.normal ?_); clear hK K; (try simp only [Act.put, List.setIfInBounds_toArray, List.set_cons_zero, List.set_cons_succ])
    have hst2 := hs6.step (Keeps.refl _ []) (((HST5.out.fresh (W := w6) (HT1.out.mono (fun b hb => by simpa using hb))).keep ((Keeps.refl w6 []).alloc _))) hown hgrow hat
    have HST2 := Lib.hid hst2
    have HRS2 : Hid (RS w0 rb ((pTerm numP f l1).map (·.2)) (w2.setCell ⟨g, 3, none⟩ (.slice A' (0 + 1) c'))) := (HS6.out.keep ((Keeps.refl w6 []).alloc _)).grown hgrow hs6.row (by omega) (by have := HST5.out.low.1; omega) _
    clear hst2 hs6 hown hgrow hat K6 k6
    have HMS0 := Lib.hid (MoreSt.start (p := pTerm numP f) (N := f - 1) (l := l1) (t := t1) (by omega) (by omega) HP.out HX6.out)
    generalize moreR (pTerm numP f) l1 = R2 at *
    generalize w2.setCell ⟨g, 3, none⟩ (.slice A' (0 + 1) c') = w9 at *
    clear HW HST5 HS5 HT1 HS6 HX6
    go_wp2_with fail
    go_loopw [] (fun wr => ∃ (j : Nat) (A2 : Option Addr) (c2 : Nat) (us : List TV) (args : List Tm) (o : Option Txt), TSt 29 (fun b => w.heap.size ≤ b) w wr [rb] [(w.heap.size, 29, #[.int .i64 0, .int .i64 0, .string ⟨#[]⟩, .slice none 0 0])] g 2 0 (stB nm) args us A2 j c2 ∧ RS w0 rb o wr ∧ MoreSt (pTerm numP f) R2 (f - 1) args j o) (fun wr => rdMu rb wr)
    case atStart => exact ⟨_, _, _, _, _, _, HST2.out, HRS2.out, HMS0.out⟩
    case round =>
      clear HST2 HRS2 HMS0
      obtain ⟨j, A2, c2, us, args, o, st, rs, ms⟩ := hrel
      have HST := Lib.hid st
      have HRS := Lib.hid rs
      have HMS := Lib.hid ms
      have hj := ms.few
      have hgw := st.out.lt
      clear st rs ms
      by_cases hgo : ∃ s, o = some s ∧ s.head? = some 44
      · obtain ⟨s, rfl, hc⟩ := hgo
        have hon := HMS.out.on s rfl
        have hslen : s.length = s.tail.length + 1 := by conv => lhs; rw [head_tail hc]; rw [List.length_cons]
        have hb1 : j + s.length ≤ 10000 := hon.1
        have hb2 : s.length ≤ f - 1 := hon.2.1
        have HSk := Lib.hid (skip_yes w0 wr rb s 44 44 rfl (HRS.out.1 s rfl) hc)
        clear hon
        go_wp2_with fail
        refine HSk.out.mono ?_
        rintro e w7 ⟨rfl, h7, k7⟩
        have HST7 := Lib.hid (HST.out.keepL k7 (by simp; omega) (by simp; omega) (by simp; omega))
        have HS7 := Lib.hid h7
        have hgw7 : g < w7.heap.size := HST7.out.out.lt
        clear h7 k7 HSk
        go_wp2_with fail
        have HW : Hid (∀ W', Keeps w7 W' (rb :: ownL (.slice A2 j c2)) → W'.frozen? ⟨g, 3, none⟩ = false ∧ W'.cell? ⟨g, 3, none⟩ = some (.slice A2 j c2)) := fun W' kk =>
          have hg : g ∉ rb :: ownL (.slice A2 j c2) := by
            simp only [List.mem_cons, not_or]
            exact ⟨by have := HST7.out.low.1; omega, HST7.out.low.2.1⟩
          ⟨(HST7.out.out.keep kk hg).frozen 3, (HST7.out.out.keep kk hg).cell 3⟩
        refine wp_region_tx (fun W' => W'.frozen? ⟨g, 3, none⟩ = false ∧ W'.cell? ⟨g, 3, none⟩ = some (.slice A2 j c2)) [(0, true), (1, true), (2, true), (3, false), (4, false), (5, false), (6, true), (7, false)] (by kernel_rfl) (by kernel_rfl) (HW.out _ ((Keeps.refl _ _).drew)) (fun hHeld => ?_)
        (repeat (first | (refine wpTx_take (v := ?_) rfl (by assumption) ?_ (by rfl) ?_; rotate_left; (focus (intro w' hSw; (try dsimp only at hSw); go_simp; (try with_reducible rfl); done)); simp only [Act.put, List.setIfInBounds_toArray, List.set_cons_zero, List.set_cons_succ]) | (refine wpTx_skip rfl (by assumption) (by rfl) ?_; simp only [Act.put, List.setIfInBounds_toArray, List.set_cons_zero, List.set_cons_succ])))
        refine wpTx_go rfl (fun K hK => ?_)
        go_simp
        refine (HI.out s.tail _ (RSt.keep HS7.out (Keeps.refl _ []).drew) (by omega) (by omega)).mono ?_
        rintro e w6 ⟨t1, v1, rfl, ht1, k6, s6, x6⟩
        have HT1 := Lib.hid ht1
        have HS6 := Lib.hid s6
        have HX6 := Lib.hid x6
        have K6 : Keeps w7 w6 [rb] := (Keeps.refl _ [rb]).drew.trans k6
        unfold tvV
        clear ht1 s6 x6
        refine hK.out _ _ ?_ ?_
        · exact HW.out _ (K6.more (by intro q _ hq; simp at hq; simp [hq]))
        (clear hHeld; intro hHeld; clear hK K; (try simp only [Act.put, List.setIfInBounds_toArray, List.set_cons_zero, List.set_cons_succ]))
        refine wpTx_go rfl (fun K hK => ?_)
        go_simp
        refine hK.out _ _ ?_ ?_
        · exact HW.out _ ((K6.alloc _).more (by intro q _ hq; simp at hq; simp [hq]))
        (clear hHeld; intro hHeld; clear hK K; (try simp only [Act.put, List.setIfInBounds_toArray, List.set_cons_zero, List.set_cons_succ]))
        refine wpTx_go rfl (fun K hK => ?_)
        have hs6 := (HST7.out.keepL K6 (by simp; omega) (by simp; omega) (by simp; omega)).keep0 ((Keeps.refl w6 []).alloc (.cells #[.int .i64 v1.k, .int .i64 v1.n, .string v1.s, .slice v1.A v1.len v1.c] 29))
        refine step_app _ el_pterm (by rfl) _ _ (by rfl) w.heap.size A2 j c2 (us.flatMap tvE) (by rfl) hs6.row (some ⟨w6.heap.size, 0, none⟩) 1 1 (tvE v1) (by rfl) (Rd.one w6 _ (tvE v1)) rfl (by simp) (by simp [tvE, Value.oneCell']) (by omega) (by have := hs6.keep.size; simp at this ⊢; omega) ?_
        intro A' c' w2 hown hgrow hat
        refine hK.out _ _ ?_ ?_
        · exact HW.out _ (((K6.alloc _).more (by intro q _ hq; simp at hq; simp [hq])).trans ((Keeps.ofGrown hgrow).more (by intro q _ hq; simp [hq])))
        (clear hHeld; intro hHeld; clear hK K; (try simp only [Act.put, List.setIfInBounds_toArray, List.set_cons_zero, List.set_cons_succ]))
        (repeat (first | (refine wpTx_take (v := ?_) rfl (by assumption) ?_ (by rfl) ?_; rotate_left; (focus (intro w' hSw; (try dsimp only at hSw); go_simp; (try with_reducible rfl); done)); simp only [Act.put, List.setIfInBounds_toArray, List.set_cons_zero, List.set_cons_succ]) | (refine wpTx_skip rfl (by assumption) (by rfl) ?_; simp only [Act.put, List.setIfInBounds_toArray, List.set_cons_zero, List.set_cons_succ])))
        refine wpTx_last rfl (fun K hK => ?_)
        go_simp
        refine hK.out _ _ (NoPanic.normal ?_); clear hK K; (try simp only [Act.put, List.setIfInBounds_toArray, List.set_cons_zero, List.set_cons_succ])
        have hst2 := hs6.step (Keeps.refl _ []) (((HST7.out.fresh (W := w6) (HT1.out.mono (fun b hb => by simpa using hb))).keep ((Keeps.refl w6 []).alloc _))) hown hgrow hat
        have HST2 := Lib.hid hst2
        have HRS2 : Hid (RS w0 rb ((pTerm numP f s.tail).map (·.2)) (w2.setCell ⟨g, 3, none⟩ (.slice A' (j + 1) c'))) := (HS6.out.keep ((Keeps.refl w6 []).alloc _)).grown hgrow hs6.row (by omega) (by have := HST7.out.low.1; omega) _
        clear hst2 hs6 hown hgrow hat K6 k6
        clear HW HST7 HS7
        go_wp2_with fail
        go_roundw
        case rel => exact ⟨j + 1, A', c', _, _, _, HST2.out, HRS2.out, HMS.out.step hc HP.out HX6.out⟩
        case measure =>
          rw [HRS2.out.mu, HRS.out.mu]
          cases hx : pTerm numP f s.tail with
          | none => simp
          | some x =>
            have := HP.out _ x hx
            simp
            omega
      · have hfin := HMS.out.fin (fun s hs hc => hgo ⟨s, hs, hc⟩) nm
        have HSkN : Hid (Calls Tryd.prog 44 #[.pointer (some ⟨rb, 0, none⟩), .int .u8 44] wr fun e w' => e = .returned (.bool false) ∧ wr = w') := by
          cases o with
          | none => obtain ⟨s, hs⟩ := HRS.out.2 rfl; exact skip_no w0 wr rb s true 44 hs (.inl rfl)
          | some s => exact skip_no w0 wr rb s false 44 (HRS.out.1 s rfl) (.inr fun d hd e => hgo ⟨s, rfl, by rw [hd]; exact congrArg some (UInt8.toNat_inj.1 (show d.toNat = _ from by simp; omega))⟩)
        have HFIN := Lib.hid hfin
        clear hfin hgo
        go_wp2_with fail
        refine HSkN.out.mono ?_
        rintro e w7 ⟨rfl, rfl⟩
        go_wp2_with fail
        refine (want_o w0 wr rb o 41 41 rfl HRS.out).mono ?_
        rintro e w8 ⟨rfl, s8, k8⟩
        have st8 := HST.out.keepL k8 (by simp; omega) (by simp; omega) (by simp; omega)
        have hd := st8.done (by omega)
        have hb8 := (st8.fix (w.heap.size, 29, #[.int .i64 0, .int .i64 0, .string ⟨#[]⟩, .slice none 0 0]) (by simp)).1
        have hg8 := st8.out
        have zc0 := hb8.cell 0
        have zf0 := hb8.frozen 0
        have zc1 := hb8.cell 1
        have zf1 := hb8.frozen 1
        have zc2 := hb8.cell 2
        have zf2 := hb8.frozen 2
        have zc3 := hb8.cell 3
        have zf3 := hb8.frozen 3
        have yc0 := hg8.cell 0
        have yf0 := hg8.frozen 0
        have yc1 := hg8.cell 1
        have yf1 := hg8.frozen 1
        have yc2 := hg8.cell 2
        have yf2 := hg8.frozen 2
        have yc3 := hg8.cell 3
        have yf3 := hg8.frozen 3
        rw [← HFIN.out.1] at s8
        have HD := Lib.hid (TermDone.hand (w0 := w0) (w := w) (g := w.heap.size) (r := strR nm R2) (hd.mono fun b hb => ⟨hb.1, hb.2.2 (w.heap.size, 29, #[.int .i64 0, .int .i64 0, .string ⟨#[]⟩, .slice none 0 0]) (by simp)⟩) st8.keep s8 (fun z hz => HFIN.out.2 z hz) (Nat.le_refl _) hrb (.int .i64 2) (.int .i64 0) (.string (stB nm)) (.slice A2 j c2))
        rw [← HE.out] at HD
        unfold tvV at HD
        clear st8 hd hb8 hg8 s8 k8
        go_wp2_with fail
        exact bodyPost_ret (v := .agg #[.int .i64 2, .int .i64 0, .string (stB nm), .slice A2 j c2]) (by simp [results, Tryd.results28, go_sem, *]) rfl HD.out
end Go.Proofs.YtjbomjnkjcafcaaDoor
