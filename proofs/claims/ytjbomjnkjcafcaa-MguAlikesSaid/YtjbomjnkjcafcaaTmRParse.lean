/- The document's take and Parse. -/
import Derived.Test.YtjbomjnkjcafcaaTmTakeN1
import Derived.Test.YtjbomjnkjcafcaaTmTakeN2
import Derived.Test.YtjbomjnkjcafcaaTmTakeN3
import Derived.Test.YtjbomjnkjcafcaaTmTakeN4
import Derived.Test.YtjbomjnkjcafcaaTmParse
namespace Go.Proofs.Ytjbomjnkjcafcaa
open Go.RowKit

theorem take_name (s : ByteArray) (w : World) (p : Txt → Option (Tm × Txt)) (h3 : 0 < s.size) (h88 : s.data.toList.head? ≠ some 88) (h91 : s.data.toList.head? ≠ some 91) (hf : s.size ≤ 10000)
    (hp : ∀ l x, p l = some x → x.2.length ≤ l.length)
    (ih : ∀ (x : ByteArray) (w : World), x.size < s.size → Calls Try.prog 46 #[.string x] w (TakeDone w x.data.toList (p x.data.toList))) :
    Calls Try.prog 46 #[.string s] w (TakeDone w s.data.toList (nameR p s.data.toList)) := by
  rcases br_all s.data.toList with h | h | h | h
  · exact take_name_1 s w p h3 h88 h91 hf h hp ih
  · exact take_name_2 s w p h3 h88 h91 hf h hp ih
  · exact take_name_3 s w p h3 h88 h91 hf h hp ih
  · exact take_name_4 s w p h3 h88 h91 hf h hp ih
theorem take_any (f : Nat) : ∀ (s : ByteArray) (w : World), s.size < f → s.size ≤ 10000 → Calls Try.prog 46 #[.string s] w (TakeDone w s.data.toList (pTerm numR f s.data.toList)) := by
  induction f with
  | zero => intro s w h; omega
  | succ f ih =>
    intro s w hl hf
    have hlen : ∀ l x, pTerm numR f l = some x → x.2.length ≤ l.length := pTerm_len numR_ok f
    have hih : ∀ (x : ByteArray) (w : World), x.size < s.size → Calls Try.prog 46 #[.string x] w (TakeDone w x.data.toList (pTerm numR f x.data.toList)) := fun x w h => ih x w (by omega) (by omega)
    by_cases h0 : s.size = 0
    · have e : s.data.toList = [] := List.length_eq_zero_iff.1 h0
      have := take_nil s w h0
      rw [e] at this ⊢
      rw [pTerm, if_neg (by simp), if_neg (by simp), if_pos (show ([] : Txt).takeWhile isAl = [] from rfl)]
      exact this
    by_cases h1 : s.data.toList.head? = some 88
    · rw [pTerm, if_pos h1]
      exact take_var s w h1 hf
    by_cases h2 : s.data.toList.head? = some 91
    · rw [pTerm, if_neg h1, if_pos h2]
      exact take_list s w (pTerm numR f) h2 hf hih
    · have h := take_name s w (pTerm numR f) (by omega) h1 h2 hf hlen hih
      have e : pTerm numR (f + 1) s.data.toList = nameR (pTerm numR f) s.data.toList := by
        by_cases h3 : s.data.toList.takeWhile isAl = []
        · rw [nameR_none h3, pTerm, if_neg h1, if_neg h2, if_pos h3]
        · by_cases h4 : (s.data.toList.dropWhile isAl).head? = some 40
          · rw [nameR_str h3 h4, pTerm_str h1 h2 h3 h4]
          · rw [nameR_con h3 h4, pTerm, if_neg h1, if_neg h2, if_neg h3, if_neg h4]
      rw [e]
      exact h

/-- What the document's Parse tells. -/
def parseD (s : Txt) : Option Tm := if 10000 < s.length then none else parseTm numR s
theorem parseD_same (s : Txt) : parseP s = parseD s := by
  unfold parseP parseD
  rw [parse_one numP_ok numR_ok]
def RParseDone (w : World) (o : Option Tm) (e : Ending) (w' : World) : Prop := ∃ v, e = .returned (.tuple #[tvV v, .bool o.isSome]) ∧ Tr w' (fun b => w.heap.size ≤ b) (o.getD tZero) v ∧ Keeps w w' []
theorem RParseDone.no {w wr : World} {o : Option Tm} (ho : o = Option.none) (k : Keeps w wr []) : RParseDone w o (.returned (.tuple #[.agg #[.int .i64 0, .int .i64 0, .string ⟨#[]⟩, .slice none 0 0], .bool false])) wr := by
  subst ho
  exact ⟨⟨0, 0, ⟨#[]⟩, Option.none, 0, 0⟩, rfl, Tr.leaf _ _ _ _ _ (by decide), k⟩
theorem RParseDone.no4 {w wr : World} {o : Option Tm} (ho : o = Option.none) (k : Keeps w wr []) (v0 v1 v2 v3 : Value) : RParseDone w o (.returned (.tuple #[.agg #[.int .i64 0, .int .i64 0, .string ⟨#[]⟩, .slice none 0 0], .bool false])) ((((wr.setCell ⟨w.heap.size, 0, Option.none⟩ v0).setCell ⟨w.heap.size, 1, Option.none⟩ v1).setCell ⟨w.heap.size, 2, Option.none⟩ v2).setCell ⟨w.heap.size, 3, Option.none⟩ v3)   := .no ho (keeps_set4 k (Nat.le_refl _) _ _ _ _)
theorem RParseDone.some {w wr : World} {o : Option Tm} {t : Tm} {v : TV} (ho : o = Option.some t) (h : Tr wr (fun b => w.heap.size ≤ b ∧ b ≠ w.heap.size) t v) (k : Keeps w wr []) (v0 v1 v2 v3 : Value) :
    RParseDone w o (.returned (.tuple #[.agg #[.int .i64 v.k, .int .i64 v.n, .string v.s, .slice v.A v.len v.c], .bool true])) ((((wr.setCell ⟨w.heap.size, 0, Option.none⟩ v0).setCell ⟨w.heap.size, 1, Option.none⟩ v1).setCell ⟨w.heap.size, 2, Option.none⟩ v2).setCell ⟨w.heap.size, 3, Option.none⟩ v3) := by
  subst ho
  exact ⟨v, rfl, (h.keepL (keeps_self4 wr w.heap.size v0 v1 v2 v3) (fun b hb h => h.2 (by simpa using hb))).mono fun b hb => hb.1, keeps_set4 k (Nat.le_refl _) _ _ _ _⟩

set_option maxRecDepth 100000 in
set_option maxHeartbeats 3200000 in
theorem refParse_any (s : ByteArray) (w : World) : Calls Try.prog 30 #[.string s] w (RParseDone w (parseD s.data.toList)) := by
  have hsl : s.data.toList.length = s.size := rfl
  have HB0 : Hid (Blk (w.alloc (.cells #[.int .i64 0, .int .i64 0, .string ⟨#[]⟩, .slice none 0 0] 24)) w.heap.size 24 #[.int .i64 0, .int .i64 0, .string ⟨#[]⟩, .slice none 0 0]) := Blk.new _ _ _
  have HK0 : Hid (Keeps w (w.alloc (.cells #[.int .i64 0, .int .i64 0, .string ⟨#[]⟩, .slice none 0 0] 24)) []) := (Keeps.refl w []).alloc _
  by_cases hlong : 10000 < s.size
  · have d0 : decide (10000 < (s.size : Int)) = true := by simp; omega
    have HE : Hid (parseD s.data.toList = none) := by show _ = _; rw [parseD, if_pos (by omega)]
    have HD := Lib.hid (RParseDone.no HE.out HK0.out)
    unfold RParseDone at HD ⊢
    go_enter Try.func30, Try.ntmps30
    go_wp2_with fail
    exact bodyPost_ret (v := .tuple #[.agg #[.int .i64 0, .int .i64 0, .string ⟨#[]⟩, .slice none 0 0], .bool false]) (by simp [results, Try.results30, go_sem, *]) rfl HD.out
  have d0 : decide (10000 < (s.size : Int)) = false := by simp; omega
  have ht := take_any (s.size + 1) s (w.alloc (.cells #[.int .i64 0, .int .i64 0, .string ⟨#[]⟩, .slice none 0 0] 24)) (by omega) (by omega)
  have HP : Hid (parseD s.data.toList = match pTerm numR (s.size + 1) s.data.toList with | some (t, []) => if tRight t then some t else none | _ => none) := by show _ = _; rw [parseD, if_neg (by omega)]; rfl
  obtain ⟨R, hRe⟩ : ∃ R, parseD s.data.toList = R := ⟨_, rfl⟩
  rw [hRe] at HP ⊢
  obtain ⟨r, hr⟩ : ∃ r, pTerm numR (s.size + 1) s.data.toList = r := ⟨_, rfl⟩
  rw [hr] at HP ht
  unfold TakeDone at ht
  have HT := Lib.hid ht
  clear hr hRe ht hlong
  unfold RParseDone
  go_enter Try.func30, Try.ntmps30
  go_wp2_with fail
  refine HT.out.mono ?_
  rintro e w1 ⟨t1, v1, n1, rfl, ht1, k1, i1⟩
  have HG : Hid (Blk (w1.alloc (.cells #[.int .i64 v1.k, .int .i64 v1.n, .string v1.s, .slice v1.A v1.len v1.c] 24)) w1.heap.size 24 #[.int .i64 v1.k, .int .i64 v1.n, .string v1.s, .slice v1.A v1.len v1.c]) := Blk.new _ _ _
  have HB1 := Lib.hid ((HB0.out.keep k1 (by simp)).alloc (.cells #[.int .i64 v1.k, .int .i64 v1.n, .string v1.s, .slice v1.A v1.len v1.c] 24))
  have HK1 := Lib.hid ((HK0.out.trans k1).alloc (.cells #[.int .i64 v1.k, .int .i64 v1.n, .string v1.s, .slice v1.A v1.len v1.c] 24))
  have HT1 := Lib.hid (ht1.keep ((Keeps.refl w1 []).alloc (.cells #[.int .i64 v1.k, .int .i64 v1.n, .string v1.s, .slice v1.A v1.len v1.c] 24)))
  have HZ1 : Hid (w.heap.size < w1.heap.size) := by have := k1.size; simp at this; show _ < _; omega
  unfold tvV
  clear ht1 k1 HT HK0 HB0
  have hb := HB1.out
  have zc0 := hb.cell 0
  have zf0 := hb.frozen 0
  have zc1 := hb.cell 1
  have zf1 := hb.frozen 1
  have zc2 := hb.cell 2
  have zf2 := hb.frozen 2
  have zc3 := hb.cell 3
  have zf3 := hb.frozen 3
  have hg := HG.out
  have yc0 := hg.cell 0
  have yf0 := hg.frozen 0
  have yc1 := hg.cell 1
  have yf1 := hg.frozen 1
  have yc2 := hg.cell 2
  have yf2 := hg.frozen 2
  have yc3 := hg.cell 3
  have yf3 := hg.frozen 3
  clear hb hg
  cases r with
  | none =>
    obtain rfl : n1 = 0 := i1.no rfl
    have HD := Lib.hid (RParseDone.no4 (o := R) HP.out HK1.out (.int .i64 0) (.int .i64 0) (.string ⟨#[]⟩) (.slice none 0 0))
    unfold RParseDone at HD
    clear i1
    go_wp2_with fail
    exact bodyPost_ret (v := .tuple #[.agg #[.int .i64 0, .int .i64 0, .string ⟨#[]⟩, .slice none 0 0], .bool false]) (by simp [results, Try.results30, go_sem, *]) rfl HD.out
  | some x =>
    obtain ⟨t, rest⟩ := x
    obtain ⟨hx1, hn1, hl1, hd1⟩ := i1.yes _ rfl
    simp only at hx1 hl1
    subst hx1
    have n0 : ((n1 : Int) == 0) = false := by simp; omega
    clear hd1 i1
    cases rest with
    | cons c rest =>
      have hne9 : ¬ (n1 : Int) = (s.size : Int) := by simp at hl1; omega
      have d1 : ((n1 : Int) == (s.size : Int)) = false := beq_eq_false_iff_ne.2 hne9
      clear hl1 hn1
      have HD := Lib.hid (RParseDone.no4 (o := R) HP.out HK1.out (.int .i64 0) (.int .i64 0) (.string ⟨#[]⟩) (.slice none 0 0))
      unfold RParseDone at HD
      go_wp2_with fail
      exact bodyPost_ret (v := .tuple #[.agg #[.int .i64 0, .int .i64 0, .string ⟨#[]⟩, .slice none 0 0], .bool false]) (by simp [results, Try.results30, go_sem, *]) rfl HD.out
    | nil =>
      have hn : n1 = s.size := by simp at hl1; omega
      subst hn
      have hrt := refRightT_any t1 v1 _ (HT1.out.mono fun _ _ => trivial)
      cases hr : tRight t1 with
      | false =>
        rw [hr] at hrt
        have HR := Lib.hid hrt
        have HE : Hid (R = none) := by show _ = _; rw [HP.out]; simp [hr]
        unfold tvV at HR
        clear hrt hr
        go_wp2_with fail
        refine HR.out.mono ?_
        rintro e w2 ⟨rfl, k2⟩
        have hb := HB1.out.keep k2 (by simp)
        have nc0 := hb.cell 0
        have nf0 := hb.frozen 0
        have nc1 := hb.cell 1
        have nf1 := hb.frozen 1
        have nc2 := hb.cell 2
        have nf2 := hb.frozen 2
        have nc3 := hb.cell 3
        have nf3 := hb.frozen 3
        have HD := Lib.hid (RParseDone.no4 (o := R) HE.out (HK1.out.trans k2) (.int .i64 0) (.int .i64 0) (.string ⟨#[]⟩) (.slice none 0 0))
        unfold RParseDone at HD
        clear hb k2
        go_wp2_with fail
        exact bodyPost_ret (v := .tuple #[.agg #[.int .i64 0, .int .i64 0, .string ⟨#[]⟩, .slice none 0 0], .bool false]) (by simp [results, Try.results30, go_sem, *]) rfl HD.out
      | true =>
        rw [hr] at hrt
        have HR := Lib.hid hrt
        have HE : Hid (R = some t1) := by show _ = _; rw [HP.out]; simp [hr]
        unfold tvV at HR
        clear hrt hr
        go_wp2_with fail
        refine HR.out.mono ?_
        rintro e w2 ⟨rfl, k2⟩
        have hb := HB1.out.keep k2 (by simp)
        have nc0 := hb.cell 0
        have nf0 := hb.frozen 0
        have nc1 := hb.cell 1
        have nf1 := hb.frozen 1
        have nc2 := hb.cell 2
        have nf2 := hb.frozen 2
        have nc3 := hb.cell 3
        have nf3 := hb.frozen 3
        have hg := HG.out.keep k2 (by simp)
        have mc0 := hg.cell 0
        have mf0 := hg.frozen 0
        have mc1 := hg.cell 1
        have mf1 := hg.frozen 1
        have mc2 := hg.cell 2
        have mf2 := hg.frozen 2
        have mc3 := hg.cell 3
        have mf3 := hg.frozen 3
        have HD := Lib.hid (RParseDone.some (o := R) (v := v1) HE.out ((HT1.out.keep k2).mono fun b hb => by simp at hb; omega) (HK1.out.trans k2) (.int .i64 v1.k) (.int .i64 v1.n) (.string v1.s) (.slice v1.A v1.len v1.c))
        unfold RParseDone at HD
        clear hb k2 hg
        go_wp2_with fail
        exact bodyPost_ret (v := .tuple #[.agg #[.int .i64 v1.k, .int .i64 v1.n, .string v1.s, .slice v1.A v1.len v1.c], .bool true]) (by simp [results, Try.results30, go_sem, *]) rfl HD.out
end Go.Proofs.Ytjbomjnkjcafcaa
