/- The program's Parse. -/
import Derived.Test.YtnonfmaehfmigaaDoorJR10
import Derived.Test.YtnonfmaehfmigaaDoorJR06
import Derived.Test.YtnonfmaehfmigaaDoorJR11
import Derived.Test.YtnonfmaehfmigaaDoorJR12
import Derived.Test.YtnonfmaehfmigaaDoorJR13
import Derived.Test.YtnonfmaehfmigaaDoorJR14
import Derived.Test.YtnonfmaehfmigaaDoorJR03
import Derived.Test.YtnonfmaehfmigaaDoorJR02
import Derived.Test.YtnonfmaehfmigaaDoorJR09
import Derived.Test.YtnonfmaehfmigaaDoorJR04
namespace Go.Proofs.YtnonfmaehfmigaaDoor
open Go.RowKit

def tZero : Tm := .mk 0 0 ⟨#[]⟩ []
/-- What Parse tells: a term, and what was wrong. -/
def parseP (s : Txt) : Option Tm := if 10000 < s.length then none else parseTm numP s
def errOf (o : Option Tm) : Int := if o.isSome then 0 else 17
def ParseDone (w : World) (o : Option Tm) (e : Ending) (w' : World) : Prop := ∃ v, e = .returned (.tuple #[tvV v, .int .i64 (errOf o)]) ∧ Tr w' (fun b => w.heap.size ≤ b) (o.getD tZero) v ∧ Keeps w w' []
theorem ParseDone.zero {w wr : World} {o : Option Tm} (ho : o = none) (k : Keeps w wr []) : ParseDone w o (.returned (.tuple #[.agg #[.int .i64 0, .int .i64 0, .string ⟨#[]⟩, .slice none 0 0], .int .i64 17])) wr := by
  subst ho
  exact ⟨⟨0, 0, ⟨#[]⟩, none, 0, 0⟩, rfl, Tr.leaf _ _ _ _ _ (by decide), k⟩
theorem ParseDone.zero4 {w wr : World} {o : Option Tm} (ho : o = none) (k : Keeps w wr []) (v0 v1 v2 v3 : Value) : ParseDone w o (.returned (.tuple #[.agg #[.int .i64 0, .int .i64 0, .string ⟨#[]⟩, .slice none 0 0], .int .i64 17])) ((((wr.setCell ⟨w.heap.size, 0, none⟩ v0).setCell ⟨w.heap.size, 1, none⟩ v1).setCell ⟨w.heap.size, 2, none⟩ v2).setCell ⟨w.heap.size, 3, none⟩ v3) := .zero ho (keeps_set4 k (Nat.le_refl _) _ _ _ _)
theorem ParseDone.some {w wr : World} {o : Option Tm} {t : Tm} {v : TV} (ho : o = Option.some t) (h : Tr wr (fun b => w.heap.size ≤ b ∧ b ≠ w.heap.size) t v) (k : Keeps w wr []) (v0 v1 v2 v3 : Value) :
    ParseDone w o (.returned (.tuple #[.agg #[.int .i64 v.k, .int .i64 v.n, .string v.s, .slice v.A v.len v.c], .int .i64 0])) ((((wr.setCell ⟨w.heap.size, 0, none⟩ v0).setCell ⟨w.heap.size, 1, none⟩ v1).setCell ⟨w.heap.size, 2, none⟩ v2).setCell ⟨w.heap.size, 3, none⟩ v3) := by
  subst ho
  exact ⟨v, rfl, (h.keepL (keeps_self4 wr w.heap.size v0 v1 v2 v3) (fun b hb h => h.2 (by simpa using hb))).mono fun b hb => hb.1, keeps_set4 k (Nat.le_refl _) _ _ _ _⟩

end Go.Proofs.YtnonfmaehfmigaaDoor

/- The document's take and Parse. -/
namespace Go.Proofs.YtnonfmaehfmigaaDoor
open Go.RowKit

theorem take_name (s : ByteArray) (w : World) (p : Txt → Option (Tm × Txt)) (h3 : 0 < s.size) (h88 : s.data.toList.head? ≠ some 88) (h91 : s.data.toList.head? ≠ some 91) (hf : s.size ≤ 10000)
    (hp : ∀ l x, p l = some x → x.2.length ≤ l.length)
    (ih : ∀ (x : ByteArray) (w : World), x.size < s.size → Calls Tryd.prog 57 #[.string x] w (TakeDone w x.data.toList (p x.data.toList))) :
    Calls Tryd.prog 57 #[.string s] w (TakeDone w s.data.toList (nameR p s.data.toList)) := by
  rcases br_all s.data.toList with h | h | h | h
  · exact take_name_1 s w p h3 h88 h91 hf h hp ih
  · exact take_name_2 s w p h3 h88 h91 hf h hp ih
  · exact take_name_3 s w p h3 h88 h91 hf h hp ih
  · exact take_name_4 s w p h3 h88 h91 hf h hp ih
theorem take_any (f : Nat) : ∀ (s : ByteArray) (w : World), s.size < f → s.size ≤ 10000 → Calls Tryd.prog 57 #[.string s] w (TakeDone w s.data.toList (pTerm numR f s.data.toList)) := by
  induction f with
  | zero => intro s w h; omega
  | succ f ih =>
    intro s w hl hf
    have hlen : ∀ l x, pTerm numR f l = some x → x.2.length ≤ l.length := pTerm_len numR_ok f
    have hih : ∀ (x : ByteArray) (w : World), x.size < s.size → Calls Tryd.prog 57 #[.string x] w (TakeDone w x.data.toList (pTerm numR f x.data.toList)) := fun x w h => ih x w (by omega) (by omega)
    by_cases h0 : s.size = 0
    · have e : s.data.toList = [] := List.length_eq_zero_iff.1 h0
      have := take_nil s w h0
      rw [e] at this ⊢
      rw [pTerm, if_neg (by simp), if_neg (by simp), if_pos (show ([] : Txt).takeWhile isAl = [] from rfl)]
      exact this
    by_cases h1 : s.data.toList.head? = some 88
    · rw [pTerm, if_pos h1]
      exact take_var s w h1 hf
    by_cases h2 : s.data.toList.head? = some 91
    · rw [pTerm, if_neg h1, if_pos h2]
      exact take_list s w (pTerm numR f) h2 hf hih
    · have h := take_name s w (pTerm numR f) (by omega) h1 h2 hf hlen hih
      have e : pTerm numR (f + 1) s.data.toList = nameR (pTerm numR f) s.data.toList := by
        by_cases h3 : s.data.toList.takeWhile isAl = []
        · rw [nameR_none h3, pTerm, if_neg h1, if_neg h2, if_pos h3]
        · by_cases h4 : (s.data.toList.dropWhile isAl).head? = some 40
          · rw [nameR_str h3 h4, pTerm_str h1 h2 h3 h4]
          · rw [nameR_con h3 h4, pTerm, if_neg h1, if_neg h2, if_neg h3, if_neg h4]
      rw [e]
      exact h

/-- What the document's Parse tells. -/
def parseD (s : Txt) : Option Tm := if 10000 < s.length then none else parseTm numR s
theorem parseD_same (s : Txt) : parseP s = parseD s := by
  unfold parseP parseD
  rw [parse_one numP_ok numR_ok]
def RParseDone (w : World) (o : Option Tm) (e : Ending) (w' : World) : Prop := ∃ v, e = .returned (.tuple #[tvV v, .bool o.isSome]) ∧ Tr w' (fun b => w.heap.size ≤ b) (o.getD tZero) v ∧ Keeps w w' []
theorem RParseDone.no {w wr : World} {o : Option Tm} (ho : o = Option.none) (k : Keeps w wr []) : RParseDone w o (.returned (.tuple #[.agg #[.int .i64 0, .int .i64 0, .string ⟨#[]⟩, .slice none 0 0], .bool false])) wr := by
  subst ho
  exact ⟨⟨0, 0, ⟨#[]⟩, Option.none, 0, 0⟩, rfl, Tr.leaf _ _ _ _ _ (by decide), k⟩
theorem RParseDone.no4 {w wr : World} {o : Option Tm} (ho : o = Option.none) (k : Keeps w wr []) (v0 v1 v2 v3 : Value) : RParseDone w o (.returned (.tuple #[.agg #[.int .i64 0, .int .i64 0, .string ⟨#[]⟩, .slice none 0 0], .bool false])) ((((wr.setCell ⟨w.heap.size, 0, Option.none⟩ v0).setCell ⟨w.heap.size, 1, Option.none⟩ v1).setCell ⟨w.heap.size, 2, Option.none⟩ v2).setCell ⟨w.heap.size, 3, Option.none⟩ v3)   := .no ho (keeps_set4 k (Nat.le_refl _) _ _ _ _)
theorem RParseDone.some {w wr : World} {o : Option Tm} {t : Tm} {v : TV} (ho : o = Option.some t) (h : Tr wr (fun b => w.heap.size ≤ b ∧ b ≠ w.heap.size) t v) (k : Keeps w wr []) (v0 v1 v2 v3 : Value) :
    RParseDone w o (.returned (.tuple #[.agg #[.int .i64 v.k, .int .i64 v.n, .string v.s, .slice v.A v.len v.c], .bool true])) ((((wr.setCell ⟨w.heap.size, 0, Option.none⟩ v0).setCell ⟨w.heap.size, 1, Option.none⟩ v1).setCell ⟨w.heap.size, 2, Option.none⟩ v2).setCell ⟨w.heap.size, 3, Option.none⟩ v3) := by
  subst ho
  exact ⟨v, rfl, (h.keepL (keeps_self4 wr w.heap.size v0 v1 v2 v3) (fun b hb h => h.2 (by simpa using hb))).mono fun b hb => hb.1, keeps_set4 k (Nat.le_refl _) _ _ _ _⟩

set_option maxRecDepth 100000 in
set_option maxHeartbeats 3200000 in
theorem refParse_any (s : ByteArray) (w : World) : Calls Tryd.prog 28 #[.string s] w (RParseDone w (parseD s.data.toList)) := by
  have hsl : s.data.toList.length = s.size := rfl
  have HB0 : Hid (Blk (w.alloc (.cells #[.int .i64 0, .int .i64 0, .string ⟨#[]⟩, .slice none 0 0] 24)) w.heap.size 24 #[.int .i64 0, .int .i64 0, .string ⟨#[]⟩, .slice none 0 0]) := Blk.new _ _ _
  have HK0 : Hid (Keeps w (w.alloc (.cells #[.int .i64 0, .int .i64 0, .string ⟨#[]⟩, .slice none 0 0] 24)) []) := (Keeps.refl w []).alloc _
  by_cases hlong : 10000 < s.size
  · have d0 : decide (10000 < (s.size : Int)) = true := by simp; omega
    have HE : Hid (parseD s.data.toList = none) := by show _ = _; rw [parseD, if_pos (by omega)]
    have HD := Lib.hid (RParseDone.no HE.out HK0.out)
    unfold RParseDone at HD ⊢
    go_enter Tryd.func28, Tryd.ntmps28
    go_wp2_with fail
    exact bodyPost_ret (v := .tuple #[.agg #[.int .i64 0, .int .i64 0, .string ⟨#[]⟩, .slice none 0 0], .bool false]) (by simp [results, Tryd.results28, go_sem, *]) rfl HD.out
  have d0 : decide (10000 < (s.size : Int)) = false := by simp; omega
  have ht := take_any (s.size + 1) s (w.alloc (.cells #[.int .i64 0, .int .i64 0, .string ⟨#[]⟩, .slice none 0 0] 24)) (by omega) (by omega)
  have HP : Hid (parseD s.data.toList = match pTerm numR (s.size + 1) s.data.toList with | some (t, []) => if tRight t then some t else none | _ => none) := by show _ = _; rw [parseD, if_neg (by omega)]; rfl
  obtain ⟨R, hRe⟩ : ∃ R, parseD s.data.toList = R := ⟨_, rfl⟩
  rw [hRe] at HP ⊢
  obtain ⟨r, hr⟩ : ∃ r, pTerm numR (s.size + 1) s.data.toList = r := ⟨_, rfl⟩
  rw [hr] at HP ht
  unfold TakeDone at ht
  have HT := Lib.hid ht
  clear hr hRe ht hlong
  unfold RParseDone
  go_enter Tryd.func28, Tryd.ntmps28
  go_wp2_with fail
  refine HT.out.mono ?_
  rintro e w1 ⟨t1, v1, n1, rfl, ht1, k1, i1⟩
  have HG : Hid (Blk (w1.alloc (.cells #[.int .i64 v1.k, .int .i64 v1.n, .string v1.s, .slice v1.A v1.len v1.c] 24)) w1.heap.size 24 #[.int .i64 v1.k, .int .i64 v1.n, .string v1.s, .slice v1.A v1.len v1.c]) := Blk.new _ _ _
  have HB1 := Lib.hid ((HB0.out.keep k1 (by simp)).alloc (.cells #[.int .i64 v1.k, .int .i64 v1.n, .string v1.s, .slice v1.A v1.len v1.c] 24))
  have HK1 := Lib.hid ((HK0.out.trans k1).alloc (.cells #[.int .i64 v1.k, .int .i64 v1.n, .string v1.s, .slice v1.A v1.len v1.c] 24))
  have HT1 := Lib.hid (ht1.keep ((Keeps.refl w1 []).alloc (.cells #[.int .i64 v1.k, .int .i64 v1.n, .string v1.s, .slice v1.A v1.len v1.c] 24)))
  have HZ1 : Hid (w.heap.size < w1.heap.size) := by have := k1.size; simp at this; show _ < _; omega
  unfold tvV
  clear ht1 k1 HT HK0 HB0
  have hb := HB1.out
  have zc0 := hb.cell 0
  have zf0 := hb.frozen 0
  have zc1 := hb.cell 1
  have zf1 := hb.frozen 1
  have zc2 := hb.cell 2
  have zf2 := hb.frozen 2
  have zc3 := hb.cell 3
  have zf3 := hb.frozen 3
  have hg := HG.out
  have yc0 := hg.cell 0
  have yf0 := hg.frozen 0
  have yc1 := hg.cell 1
  have yf1 := hg.frozen 1
  have yc2 := hg.cell 2
  have yf2 := hg.frozen 2
  have yc3 := hg.cell 3
  have yf3 := hg.frozen 3
  clear hb hg
  cases r with
  | none =>
    obtain rfl : n1 = 0 := i1.no rfl
    have HD := Lib.hid (RParseDone.no4 (o := R) HP.out HK1.out (.int .i64 0) (.int .i64 0) (.string ⟨#[]⟩) (.slice none 0 0))
    unfold RParseDone at HD
    clear i1
    go_wp2_with fail
    exact bodyPost_ret (v := .tuple #[.agg #[.int .i64 0, .int .i64 0, .string ⟨#[]⟩, .slice none 0 0], .bool false]) (by simp [results, Tryd.results28, go_sem, *]) rfl HD.out
  | some x =>
    obtain ⟨t, rest⟩ := x
    obtain ⟨hx1, hn1, hl1, hd1⟩ := i1.yes _ rfl
    simp only at hx1 hl1
    subst hx1
    have n0 : ((n1 : Int) == 0) = false := by simp; omega
    clear hd1 i1
    cases rest with
    | cons c rest =>
      have hne9 : ¬ (n1 : Int) = (s.size : Int) := by simp at hl1; omega
      have d1 : ((n1 : Int) == (s.size : Int)) = false := beq_eq_false_iff_ne.2 hne9
      clear hl1 hn1
      have HD := Lib.hid (RParseDone.no4 (o := R) HP.out HK1.out (.int .i64 0) (.int .i64 0) (.string ⟨#[]⟩) (.slice none 0 0))
      unfold RParseDone at HD
      go_wp2_with fail
      exact bodyPost_ret (v := .tuple #[.agg #[.int .i64 0, .int .i64 0, .string ⟨#[]⟩, .slice none 0 0], .bool false]) (by simp [results, Tryd.results28, go_sem, *]) rfl HD.out
    | nil =>
      have hn : n1 = s.size := by simp at hl1; omega
      subst hn
      have hrt := refRightT_any t1 v1 _ (HT1.out.mono fun _ _ => trivial)
      cases hr : tRight t1 with
      | false =>
        rw [hr] at hrt
        have HR := Lib.hid hrt
        have HE : Hid (R = none) := by show _ = _; rw [HP.out]; simp [hr]
        unfold tvV at HR
        clear hrt hr
        go_wp2_with fail
        refine HR.out.mono ?_
        rintro e w2 ⟨rfl, k2⟩
        have hb := HB1.out.keep k2 (by simp)
        have nc0 := hb.cell 0
        have nf0 := hb.frozen 0
        have nc1 := hb.cell 1
        have nf1 := hb.frozen 1
        have nc2 := hb.cell 2
        have nf2 := hb.frozen 2
        have nc3 := hb.cell 3
        have nf3 := hb.frozen 3
        have HD := Lib.hid (RParseDone.no4 (o := R) HE.out (HK1.out.trans k2) (.int .i64 0) (.int .i64 0) (.string ⟨#[]⟩) (.slice none 0 0))
        unfold RParseDone at HD
        clear hb k2
        go_wp2_with fail
        exact bodyPost_ret (v := .tuple #[.agg #[.int .i64 0, .int .i64 0, .string ⟨#[]⟩, .slice none 0 0], .bool false]) (by simp [results, Tryd.results28, go_sem, *]) rfl HD.out
      | true =>
        rw [hr] at hrt
        have HR := Lib.hid hrt
        have HE : Hid (R = some t1) := by show _ = _; rw [HP.out]; simp [hr]
        unfold tvV at HR
        clear hrt hr
        go_wp2_with fail
        refine HR.out.mono ?_
        rintro e w2 ⟨rfl, k2⟩
        have hb := HB1.out.keep k2 (by simp)
        have nc0 := hb.cell 0
        have nf0 := hb.frozen 0
        have nc1 := hb.cell 1
        have nf1 := hb.frozen 1
        have nc2 := hb.cell 2
        have nf2 := hb.frozen 2
        have nc3 := hb.cell 3
        have nf3 := hb.frozen 3
        have hg := HG.out.keep k2 (by simp)
        have mc0 := hg.cell 0
        have mf0 := hg.frozen 0
        have mc1 := hg.cell 1
        have mf1 := hg.frozen 1
        have mc2 := hg.cell 2
        have mf2 := hg.frozen 2
        have mc3 := hg.cell 3
        have mf3 := hg.frozen 3
        have HD := Lib.hid (RParseDone.some (o := R) (v := v1) HE.out ((HT1.out.keep k2).mono fun b hb => by simp at hb; omega) (HK1.out.trans k2) (.int .i64 v1.k) (.int .i64 v1.n) (.string v1.s) (.slice v1.A v1.len v1.c))
        unfold RParseDone at HD
        clear hb k2 hg
        go_wp2_with fail
        exact bodyPost_ret (v := .tuple #[.agg #[.int .i64 v1.k, .int .i64 v1.n, .string v1.s, .slice v1.A v1.len v1.c], .bool true]) (by simp [results, Tryd.results28, go_sem, *]) rfl HD.out
end Go.Proofs.YtnonfmaehfmigaaDoor

/- Terms in words: the document's Text. -/
namespace Go.Proofs.YtnonfmaehfmigaaDoor
open Go.RowKit

theorem tJoin_snoc (c : UInt8) : ∀ (l : List Txt) (a : Txt), l ≠ [] → tJoin c (l ++ [a]) = tJoin c l ++ c :: a
  | [], a, h => absurd rfl h
  | [x], a, _ => by simp [tJoin]
  | x :: y :: l, a, _ => by
    have ih := tJoin_snoc c (y :: l) a (by simp)
    rw [List.cons_append] at ih ⊢
    rw [List.cons_append, tJoin, ih, tJoin]
    simp
theorem tJoin_len (c : UInt8) : ∀ (l : List Txt) (j : Nat), (tJoin c (l.take j)).length ≤ (tJoin c l).length
  | [], j => by simp
  | [x], 0 => by simp [tJoin]
  | [x], j + 1 => by simp
  | x :: y :: l, 0 => by simp [tJoin]
  | x :: y :: l, 1 => by simp [tJoin]
  | x :: y :: l, j + 2 => by
    have ih := tJoin_len c (y :: l) (j + 1)
    rw [List.take_succ_cons] at ih ⊢
    rw [List.take_succ_cons, tJoin, tJoin, List.length_append, List.length_append, List.length_cons, List.length_cons]
    omega
set_option maxRecDepth 100000 in
set_option maxHeartbeats 3200000 in
theorem refText_any (t : Tm) : ∀ (v : TV) (w : World), Tr w (fun _ => True) t v → tRight t = true → tSize t ≤ 10000 → Calls Tryd.prog 30 #[tvV v] w fun e w' => e = .returned (.string (stB (tText t))) ∧ Keeps w w' [] := by
  induction t using Tm.ind_ with
  | h k n s l ih =>
    intro v w ht hrt hsz
    have htl := tText_few _ hrt
    cases ht with
    | mk _ _ _ _ A c vs hl hR hS hc hz hk =>
    rw [tRight, Bool.and_eq_true] at hrt
    obtain ⟨hall, hrt⟩ := hrt
    have HRt : Hid (∀ a ∈ l, tRight a = true) := (tRights_all l).1 hall
    have HSz : Hid (∀ a ∈ l, tSize a ≤ 10000) := fun a ha => by have := tSizes_mem ha; rw [tSize] at hsz; omega
    have HT : Hid (Trs w (fun _ => True) l vs) := ⟨hl, hk⟩
    have HR := Lib.hid hR
    have HI := Lib.hid ih
    obtain ⟨m, hm⟩ : ∃ m, l.length = m := ⟨_, rfl⟩
    have HM := Lib.hid hm
    have hmb : m ≤ 10000 := by have := tSizes_len l; rw [tSize] at hsz; omega
    have HTL : Hid ((tText (.mk k n s l)).length ≤ 440000) := by show _ ≤ _; omega
    clear hl hR hS hc hz hk ih hall htl hsz
    unfold tvV
    rw [hm] at hrt
    simp only [hm]
    clear hm
    have HB0 : Hid (Blk (w.alloc (.cells #[.int .i64 k, .int .i64 n, .string s, .slice A m c] 24)) w.heap.size 24 #[.int .i64 k, .int .i64 n, .string s, .slice A m c]) := Blk.new _ _ _
    have HK0 : Hid (Keeps w (w.alloc (.cells #[.int .i64 k, .int .i64 n, .string s, .slice A m c] 24)) []) := (Keeps.refl w []).alloc _
    go_enter Tryd.func30, Tryd.ntmps30
    by_cases h0 : k = 0
    · subst h0
      rw [if_pos rfl] at hrt
      simp only [Bool.and_eq_true, decide_eq_true_eq] at hrt
      obtain ⟨⟨⟨g0, g9⟩, g7⟩, g8⟩ := hrt
      clear g7 g8
      obtain ⟨nn, rfl⟩ := Int.eq_ofNat_of_zero_le g0
      have HV : Hid (tText (.mk 0 nn s l) = 88 :: Lib.decDigits nn) := by show _ = _; rw [tText, if_pos rfl, Int.toNat_natCast]
      have HI2 := Lib.hid (fun w' => num_any nn w' (by omega))
      have hadd := add_st (a := ⟨#[88]⟩) (b := digits nn) (c := stB (88 :: Lib.decDigits nn)) (stB_app [88] _) (by rw [show digits nn = stB (Lib.decDigits nn) from rfl, stB_size]; have := digits_len4 nn (by omega); have : (⟨#[88]⟩ : ByteArray).size = 1 := rfl; omega)
      go_wp2_with fail
      refine (HI2.out _).mono ?_
      rintro e w5 ⟨rfl, kd, rfl⟩
      go_wp2_with fail
      go_ret
      exact ⟨by rw [HV.out]; rfl, HK0.out.drewN kd⟩
    rw [if_neg h0] at hrt
    have e0 : (k == 0) = false := by simpa using h0
    by_cases h1 : k = 1
    · subst h1
      have HV : Hid (tText (.mk 1 n s l) = s.data.toList) := by show _ = _; rw [tText, if_neg (by omega), if_pos rfl]
      clear hrt
      go_wp2_with fail
      go_ret
      exact ⟨by rw [HV.out, stB_of]; rfl, HK0.out⟩
    rw [if_neg h1] at hrt
    have e1 : (k == 1) = false := by simpa using h1
    by_cases h3 : k = 3
    · subst h3
      simp at hrt
      obtain ⟨g7, hm2⟩ := hrt
      clear g7
      subst hm2
      obtain ⟨a, b, rfl⟩ : ∃ a b, l = [a, b] := by
        have := HM.out
        match l, this with
        | [a, b], _ => exact ⟨a, b, rfl⟩
      have hv : tText (.mk 3 n s [a, b]) = 91 :: (tText a ++ 124 :: (tText b ++ [93])) := by rw [tText, if_neg (by omega), if_neg (by omega), if_pos rfl]; simp [tTexts, tJoin]
      have hln := HTL.out
      rw [hv] at hln
      simp only [List.length_cons, List.length_append, List.length_nil] at hln
      have HV := Lib.hid hv
      clear hv
      obtain ⟨va, ba, oa, _, htra, rfl, hba, p0, p1, p2, p3⟩ := (HT.out.keep HK0.out).get (HR.out.keep HK0.out) (j := 0) (t := a) rfl
      obtain ⟨vb, bb, ob, _, htrb, hAb, _, r0, r1, r2, r3⟩ := (HT.out.keep HK0.out).get (HR.out.keep HK0.out) (j := 1) (t := b) rfl
      injection hAb with hAb
      injection hAb with hb1 hb2 hb3
      subst hb1
      subst hb2
      have HCa := Lib.hid (fun W' (kk : Keeps (w.alloc (.cells #[.int .i64 3, .int .i64 n, .string s, .slice (some ⟨ba, oa, none⟩) 2 c] 24)) W' []) => HI.out a (by simp) va W' (htra.keep kk) (HRt.out a (by simp)) (HSz.out a (by simp)))
      have HCb := Lib.hid (fun W' (kk : Keeps (w.alloc (.cells #[.int .i64 3, .int .i64 n, .string s, .slice (some ⟨ba, oa, none⟩) 2 c] 24)) W' []) => HI.out b (by simp) vb W' (htrb.keep kk) (HRt.out b (by simp)) (HSz.out b (by simp)))
      unfold tvV at HCa HCb
      have HW : Hid (∀ W', Keeps (w.alloc (.cells #[.int .i64 3, .int .i64 n, .string s, .slice (some ⟨ba, oa, none⟩) 2 c] 24)) W' [] → W'.cell? ⟨w.heap.size, 3, none⟩ = some (.slice (some ⟨ba, oa, none⟩) 2 c) ∧ W'.cell? ⟨ba, oa, none⟩ = some (.int .i64 va.k) ∧ W'.cell? ⟨ba, oa + 1, none⟩ = some (.int .i64 va.n) ∧ W'.cell? ⟨ba, oa + 2, none⟩ = some (.string va.s) ∧ W'.cell? ⟨ba, oa + 3, none⟩ = some (.slice va.A va.len va.c) ∧ W'.cell? ⟨ba, oa + 4, none⟩ = some (.int .i64 vb.k) ∧ W'.cell? ⟨ba, oa + 4 + 1, none⟩ = some (.int .i64 vb.n) ∧ W'.cell? ⟨ba, oa + 4 + 2, none⟩ = some (.string vb.s) ∧ W'.cell? ⟨ba, oa + 4 + 3, none⟩ = some (.slice vb.A vb.len vb.c)) := fun W' kk =>
        have f := fun (i : Nat) (v : Value) (h : (w.alloc (.cells #[.int .i64 3, .int .i64 n, .string s, .slice (some ⟨ba, oa, none⟩) 2 c] 24)).cell? ⟨ba, i, none⟩ = some v) => (kk.cell (p := ⟨ba, i, none⟩) hba (by simp)).trans h
        ⟨(HB0.out.keep kk (by simp)).cell 3, f _ _ (by simpa using p0), f _ _ (by simpa using p1), f _ _ (by simpa using p2), f _ _ (by simpa using p3), f _ _ (by simpa using r0), f _ _ (by simpa using r1), f _ _ (by simpa using r2), f _ _ (by simpa using r3)⟩
      clear p0 p1 p2 p3 r0 r1 r2 r3 htra htrb
      have z1 : (⟨#[91]⟩ : ByteArray).size = 1 := rfl
      have z2 : (⟨#[93]⟩ : ByteArray).size = 1 := rfl
      have z3 : (⟨#[124]⟩ : ByteArray).size = 1 := rfl
      have hadd := add_st (a := ⟨#[91]⟩) (b := stB (tText a)) (c := stB (91 :: tText a)) (stB_app [91] _) (by rw [stB_size]; omega)
      have hadd2 := add_st (a := stB (91 :: tText a)) (b := ⟨#[124]⟩) (c := stB (91 :: (tText a ++ [124]))) (by have := stB_app (91 :: tText a) [124]; rw [List.cons_append] at this; exact this) (by rw [stB_size, List.length_cons]; omega)
      have hadd3 := add_st (a := stB (91 :: (tText a ++ [124]))) (b := stB (tText b)) (c := stB (91 :: (tText a ++ 124 :: tText b))) (by rw [stB_app]; simp) (by rw [stB_size, stB_size, List.length_cons, List.length_append, List.length_singleton]; omega)
      have hadd4 := add_st (a := stB (91 :: (tText a ++ 124 :: tText b))) (b := ⟨#[93]⟩) (c := stB (91 :: (tText a ++ 124 :: (tText b ++ [93])))) (by have := stB_app (91 :: (tText a ++ 124 :: tText b)) [93]; simp only [List.append_assoc, List.cons_append] at this; exact this) (by rw [stB_size, List.length_cons, List.length_append, List.length_cons]; omega)
      go_wp2_with fail
      generalize hw0 : w.alloc (.cells #[.int .i64 3, .int .i64 n, .string s, .slice (some ⟨ba, oa, none⟩) 2 c] 24) = w0 at *
      clear HT HR HB0
      refine wp_region_tx (fun W' => W'.cell? ⟨w.heap.size, 3, none⟩ = some (.slice (some ⟨ba, oa, none⟩) 2 c) ∧ W'.cell? ⟨ba, oa, none⟩ = some (.int .i64 va.k) ∧ W'.cell? ⟨ba, oa + 1, none⟩ = some (.int .i64 va.n) ∧ W'.cell? ⟨ba, oa + 2, none⟩ = some (.string va.s) ∧ W'.cell? ⟨ba, oa + 3, none⟩ = some (.slice va.A va.len va.c) ∧ W'.cell? ⟨ba, oa + 4, none⟩ = some (.int .i64 vb.k) ∧ W'.cell? ⟨ba, oa + 4 + 1, none⟩ = some (.int .i64 vb.n) ∧ W'.cell? ⟨ba, oa + 4 + 2, none⟩ = some (.string vb.s) ∧ W'.cell? ⟨ba, oa + 4 + 3, none⟩ = some (.slice vb.A vb.len vb.c)) [(0, true), (1, true), (2, true), (3, true), (7, true), (8, true), (9, true), (10, true), (4, false), (5, true), (6, true), (11, false), (12, true), (13, true), (14, false)] (by kernel_rfl) (by kernel_rfl) (by exact HW.out _ (Keeps.refl _ []).drew) (fun hHeld => ?_)
      (repeat (first | (refine wpTx_take (v := ?_) rfl (by assumption) ?_ (by rfl) ?_; rotate_left; (focus (intro w' hSw; (try dsimp only at hSw); go_simp; (try with_reducible rfl); done)); simp only [Act.put, List.setIfInBounds_toArray, List.set_cons_zero, List.set_cons_succ]) | (refine wpTx_skip rfl (by assumption) (by rfl) ?_; simp only [Act.put, List.setIfInBounds_toArray, List.set_cons_zero, List.set_cons_succ])))
      refine wpTx_go rfl (fun K hK => ?_)
      go_simp
      refine (HCa.out _ (Keeps.refl _ []).drew).mono ?_
      rintro e w5 ⟨rfl, k5⟩
      have k5' : Keeps w0 w5 [] := (Keeps.refl _ []).drew.trans k5
      refine hK.out _ _ ?_ ?_
      · exact HW.out _ k5'
      (clear hHeld; intro hHeld; clear hK K; (try simp only [Act.put, List.setIfInBounds_toArray, List.set_cons_zero, List.set_cons_succ]))
      (repeat (first | (refine wpTx_take (v := ?_) rfl (by assumption) ?_ (by rfl) ?_; rotate_left; (focus (intro w' hSw; (try dsimp only at hSw); go_simp; (try with_reducible rfl); done)); simp only [Act.put, List.setIfInBounds_toArray, List.set_cons_zero, List.set_cons_succ]) | (refine wpTx_skip rfl (by assumption) (by rfl) ?_; simp only [Act.put, List.setIfInBounds_toArray, List.set_cons_zero, List.set_cons_succ])))
      refine wpTx_go rfl (fun K hK => ?_)
      go_simp
      refine (HCb.out _ k5').mono ?_
      rintro e w6 ⟨rfl, k6⟩
      refine hK.out _ _ ?_ ?_
      · exact HW.out _ (k5'.trans k6)
      (clear hHeld; intro hHeld; clear hK K; (try simp only [Act.put, List.setIfInBounds_toArray, List.set_cons_zero, List.set_cons_succ]))
      (repeat (first | (refine wpTx_take (v := ?_) rfl (by assumption) ?_ (by rfl) ?_; rotate_left; (focus (intro w' hSw; (try dsimp only at hSw); go_simp; (try with_reducible rfl); done)); simp only [Act.put, List.setIfInBounds_toArray, List.set_cons_zero, List.set_cons_succ]) | (refine wpTx_skip rfl (by assumption) (by rfl) ?_; simp only [Act.put, List.setIfInBounds_toArray, List.set_cons_zero, List.set_cons_succ])))
      refine wpTx_last rfl (fun K hK => ?_)
      go_simp
      refine hK.out _ _ (NoPanic.normal ?_); clear hK K; (try simp only [Act.put, List.setIfInBounds_toArray, List.set_cons_zero, List.set_cons_succ])
      go_wp2_with fail
      go_ret
      exact ⟨by rw [HV.out]; rfl, HK0.out.trans (k5'.trans k6)⟩
    · have e3 : (k == 3) = false := by simpa using h3
      have hv : tText (.mk k n s l) = s.data.toList ++ 40 :: (tJoin 44 (tTexts l) ++ [41]) := by rw [tText, if_neg h0, if_neg h1, if_neg h3]
      have hln := HTL.out
      rw [hv] at hln
      simp only [List.length_append, List.length_cons, List.length_nil] at hln
      have hss : s.data.toList.length = s.size := rfl
      have HV := Lib.hid hv
      have HLN := Lib.hid hln
      have z1 : (⟨#[40]⟩ : ByteArray).size = 1 := rfl
      have z2 : (⟨#[41]⟩ : ByteArray).size = 1 := rfl
      have z3 : (⟨#[44]⟩ : ByteArray).size = 1 := rfl
      have hadd := add_st (a := s) (b := ⟨#[40]⟩) (c := stB (s.data.toList ++ [40])) (by have := stB_app s.data.toList [40]; rw [stB_of] at this; exact this) (by omega)
      clear hv hrt
      go_wp2_with fail
      clear hadd
      go_loopw [3, 4] (fun x i wr => ∃ j : Nat, j ≤ m ∧ i = .int .i64 j ∧ x = .string (stB (s.data.toList ++ 40 :: tJoin 44 ((tTexts l).take j))) ∧ Blk wr w.heap.size 24 #[.int .i64 k, .int .i64 n, .string s, .slice A m c] ∧ Keeps w wr []) (fun _ i _ => m - (intOf i).toNat)
      case atStart => exact ⟨0, Nat.zero_le _, rfl, by simp [tJoin], HB0.out, HK0.out⟩
      case round =>
        clear HB0 HK0
        obtain ⟨j, hj, rfl, rfl, hb, hk⟩ := hrel
        have HB := Lib.hid hb
        have HK := Lib.hid hk
        have q3 := hb.cell 3
        clear hb hk
        by_cases hlt : j < m
        · obtain ⟨a, hx⟩ := at_of HM.out hlt
          have HX := Lib.hid hx
          have ha := List.mem_of_getElem? hx
          have htx : (tTexts l)[j]? = some (tText a) := by rw [tTexts_map, List.getElem?_map, hx]; rfl
          have htk : (tTexts l).take (j + 1) = (tTexts l).take j ++ [tText a] := by rw [List.take_add_one, htx]; rfl
          have hlen := tJoin_len 44 (tTexts l) (j + 1)
          obtain ⟨v', b, off, _, htr, rfl, hb, p0, p1, p2, p3⟩ := (HT.out.keep HK.out).get (HR.out.keep HK.out) hx
          have hca := HI.out a ha v' wr htr (HRt.out a ha) (HSz.out a ha)
          unfold tvV at hca
          have HC := Lib.hid hca
          have b0 : (0 : Int) ≤ (j : Int) := Int.natCast_nonneg _
          have b1 : (j : Int) < (m : Int) := by omega
          have hln := HLN.out
          by_cases hj0 : j = 0
          · have hjp : ¬ (0 : Int) < (j : Int) := by omega
            have e9 : (tTexts l).take j = [] := by rw [hj0]; rfl
            rw [htk, e9] at hlen
            have hN : s.data.toList ++ 40 :: tJoin 44 ((tTexts l).take (j + 1)) = (s.data.toList ++ 40 :: tJoin 44 ((tTexts l).take j)) ++ tText a := by rw [htk, e9]; simp [tJoin]
            simp [tJoin] at hlen
            have hadd := add_st (a := stB (s.data.toList ++ 40 :: tJoin 44 ((tTexts l).take j))) (b := stB (tText a)) (c := stB (s.data.toList ++ 40 :: tJoin 44 ((tTexts l).take (j + 1)))) (by rw [hN, stB_app]) (by rw [stB_size, stB_size, e9]; simp [tJoin]; omega)
            clear hca htr hx ha htx htk hlen hN hj0 e9
            go_wp2_with fail
            refine HC.out.mono ?_
            rintro e w4 ⟨rfl, k4⟩
            go_wp2_with fail
            go_roundw
            case rel => exact ⟨j + 1, by omega, by go_num, rfl, HB.out.keep k4 (by simp), HK.out.trans k4⟩
            case measure => simp [intOf]; omega
          · have hjp : (0 : Int) < (j : Int) := by omega
            have hne : (tTexts l).take j ≠ [] := by
              rw [tTexts_map]
              intro h
              have := congrArg List.length h
              rw [List.length_take, List.length_map, HM.out] at this
              simp at this
              omega
            have hjn := tJoin_snoc 44 ((tTexts l).take j) (tText a) hne
            rw [htk, hjn] at hlen
            simp only [List.length_append, List.length_cons] at hlen
            have hadd := add_st (a := stB (s.data.toList ++ 40 :: tJoin 44 ((tTexts l).take j))) (b := ⟨#[44]⟩) (c := stB (s.data.toList ++ 40 :: (tJoin 44 ((tTexts l).take j) ++ [44]))) (by have := stB_app (s.data.toList ++ 40 :: tJoin 44 ((tTexts l).take j)) [44]; simp only [List.append_assoc, List.cons_append] at this; exact this) (by rw [stB_size, List.length_append, List.length_cons]; omega)
            have hadd2 := add_st (a := stB (s.data.toList ++ 40 :: (tJoin 44 ((tTexts l).take j) ++ [44]))) (b := stB (tText a)) (c := stB (s.data.toList ++ 40 :: tJoin 44 ((tTexts l).take (j + 1)))) (by rw [htk, hjn, stB_app]; simp) (by rw [stB_size, stB_size, List.length_append, List.length_cons, List.length_append, List.length_singleton]; omega)
            clear hca htr hx ha htx htk hlen hne hjn hj0
            go_wp2_with fail
            refine HC.out.mono ?_
            rintro e w4 ⟨rfl, k4⟩
            go_wp2_with fail
            go_roundw
            case rel => exact ⟨j + 1, by omega, by go_num, rfl, HB.out.keep k4 (by simp), HK.out.trans k4⟩
            case measure => simp [intOf]; omega
        · obtain rfl : m = j := by omega
          have htk : (tTexts l).take m = tTexts l := List.take_of_length_le (by rw [tTexts_map, List.length_map, HM.out]; omega)
          rw [htk] at *
          have hln := HLN.out
          have hadd := add_st (a := stB (s.data.toList ++ 40 :: tJoin 44 (tTexts l))) (b := ⟨#[41]⟩) (c := stB (s.data.toList ++ 40 :: (tJoin 44 (tTexts l) ++ [41]))) (by have := stB_app (s.data.toList ++ 40 :: tJoin 44 (tTexts l)) [41]; simp only [List.append_assoc, List.cons_append] at this; exact this) (by rw [stB_size, List.length_append, List.length_cons]; omega)
          clear hlt hj
          go_wp2_with fail
          go_ret
          exact ⟨by rw [HV.out]; rfl, HK.out⟩
end Go.Proofs.YtnonfmaehfmigaaDoor

/- Layer 5's told. Printed by gen_hptold.py. -/
namespace Go.Proofs.YtnonfmaehfmigaaDoor
open Go.RowKit Go.Maps
def h1 : Tm := .mk 2 0 ⟨#[102]⟩ [.mk 0 0 ⟨#[]⟩ []]
theorem h1_right : tRight h1 = true := by kernel_rfl
theorem h1_size : tSize h1 = 2 := by kernel_rfl
theorem h1_parse : parseD [102, 40, 88, 48, 41] = some h1 := by kernel_rfl
theorem h1_text : stB (tText h1) = ⟨#[102, 40, 88, 48, 41]⟩ := by kernel_rfl
theorem h1_lay : (lay PH0 h1).2 = 9 ∧ (lay PH0 h1).1.cells.length = 3 ∧ (lay PH0 h1).1.funs.length = 1 := ⟨by kernel_rfl, by kernel_rfl, by kernel_rfl⟩
theorem h1_plc : tRn (plc (lay PH0 h1).1) h1 = h1 := by kernel_rfl
theorem h1_vars : ∀ n ∈ tV h1, n ≤ 999 := by
  intro n hn
  have : tV h1 = [0] := by kernel_rfl
  rw [this] at hn
  simp at hn
  omega
theorem h1_fit : FitR 9 (lay PH0 h1).1 := by
  have g := (lay_grow h1 PH0).1
  have hs := h1_size
  have e2 : PH0.atoms.length = 0 := rfl
  have e3 : PH0.funs.length = 0 := rfl
  have a2 := g.atoms
  have a3 := g.funs
  exact ⟨by rw [h1_lay.2.1]; omega, by omega, by omega⟩
theorem h1_rg : Rg (lay PH0 h1).1 9 h1 := by
  have h := (lay_ok h1 h1_right PH0 PH0.vi).2.2.2
  rw [h1_plc, h1_lay.1] at h
  exact h.rg (by omega : 9 ≤ 65536) h1_fit
theorem names_field0 (A : Option Addr) (n c : Nat) (A' : Option Addr) (n' c' : Nat) (w : World) : (Instr.field 46 (.agg #[.slice A n c, .slice A' n' c']) 0).run Tryd.prog w = .ok (.slice A n c) w := by kernel_rfl
theorem names_field1 (A : Option Addr) (n c : Nat) (A' : Option Addr) (n' c' : Nat) (w : World) : (Instr.field 46 (.agg #[.slice A n c, .slice A' n' c']) 1).run Tryd.prog w = .ok (.slice A' n' c') w := by kernel_rfl
set_option maxRecDepth 100000 in
set_option maxHeartbeats 3200000 in
theorem told5_any (w : World) (ht : Tab w) : Calls Tryd.prog 7 #[] w fun e w' => e = .returned (.bool true) ∧ Keeps w w' [] := by
  have HTa := Lib.hid ht
  have HPs : Hid (∀ w, Calls Tryd.prog 28 #[.string ⟨#[102, 40, 88, 48, 41]⟩] w fun e w' => ∃ v, e = .returned (.tuple #[.agg #[.int .i64 v.k, .int .i64 v.n, .string v.s, .slice v.A v.len v.c], .bool true]) ∧ Tr w' (fun b => w.heap.size ≤ b) h1 v ∧ Keeps w w' []) := fun w => by
    have h := refParse_any ⟨#[102, 40, 88, 48, 41]⟩ w
    have h2 : parseD ((⟨#[102, 40, 88, 48, 41]⟩ : ByteArray).data.toList) = some h1 := h1_parse
    rw [h2] at h
    exact h
  have HTo : Hid (∀ v w, Tr w (fun _ => True) h1 v → Calls Tryd.prog 14 #[.agg #[.int .i64 v.k, .int .i64 v.n, .string v.s, .slice v.A v.len v.c]] w (TDone [] (fun b => w.heap.size ≤ b) w h1)) := fun v w h => tmToW_any h1 v w h (tWid_of_right h1_right)
  have HFr : Hid (∀ v w, Tr w (fun _ => True) h1 v → Calls Tryd.prog 10 #[.agg #[.int .i64 v.k, .int .i64 v.n, .string v.s, .slice v.A v.len v.c]] w (TDone [] (fun b => w.heap.size ≤ b) w h1)) := fun v w h => tmFromW_any h1 v w h (tWid_of_right h1_right)
  have HTx : Hid (∀ v w, Tr w (fun _ => True) h1 v → Calls Tryd.prog 30 #[.agg #[.int .i64 v.k, .int .i64 v.n, .string v.s, .slice v.A v.len v.c]] w fun e w' => e = .returned (.string ⟨#[102, 40, 88, 48, 41]⟩) ∧ Keeps w w' []) := fun v w h => by
    have h2 := refText_any h1 v w h h1_right (by rw [h1_size]; omega)
    rw [h1_text] at h2
    exact h2
  have HCx : Hid (∀ w, Tab w → Calls Tryd.prog 29 #[.int .u64 9] w fun e w' => e = .returned (.string ⟨#[115, 116, 114, 32, 49]⟩) ∧ Keeps w w' []) := fun w ht => ctext9 w ht
  clear ht
  go_enter Tryd.func7, Tryd.ntmps7
  go_wp2_with fail
  refine (hnew_yes 9 w (by omega)).mono ?_
  rintro e w1 ⟨hb, L, rfl, hp, hL, k1⟩
  have HP1 := Lib.hid hp
  have HK1 := Lib.hid k1
  have HL1 := Lib.hid hL
  clear hp hL k1
  go_wp2_with fail
  refine (HPs.out _).mono ?_
  rintro e w2 ⟨v, rfl, hv, k2⟩
  have kk2 := k2.alloc (.cells #[.int .i64 v.k, .int .i64 v.n, .string v.s, .slice v.A v.len v.c] 24)
  have hB : Blk (w2.alloc (.cells #[.int .i64 v.k, .int .i64 v.n, .string v.s, .slice v.A v.len v.c] 24)) w2.heap.size 24 #[.int .i64 v.k, .int .i64 v.n, .string v.s, .slice v.A v.len v.c] := Blk.new _ _ _
  have HV := Lib.hid ((hv.mono (S' := fun _ => True) fun _ _ => trivial).keep ((Keeps.refl w2 []).alloc (.cells #[.int .i64 v.k, .int .i64 v.n, .string v.s, .slice v.A v.len v.c] 24)))
  have HP2 := Lib.hid (HP1.out.keep kk2 (by simp))
  have HK2 := Lib.hid (HK1.out.trans kk2)
  have b0 := hB.cell 0
  have b1 := hB.cell 1
  have b2 := hB.cell 2
  have b3 := hB.cell 3
  clear hv k2 kk2 hB
  go_wp2_with fail
  refine (HTo.out v _ HV.out).mono ?_
  rintro e w3 ⟨u, rfl, hu, k3⟩
  have hlt2 := HP2.out.lt
  have HBd := Lib.hid (build_any w.heap.size hb [] [] 9 h1 u w3 L PH0 (HP2.out.keep k3 (by simp)) PH0.vi.vb (hu.mono (fun b hb' hm => by have := hlt2 b hm; omega)) h1_right h1_fit)
  have HK3 := Lib.hid (HK2.out.trans k3)
  unfold tvV at HBd ⊢
  clear hu k3 b0 b1 b2 b3 hlt2
  go_wp2_with fail
  refine HBd.out.mono ?_
  rintro e w4 ⟨rfl, L4, hp4, st4⟩
  have HP4 := Lib.hid hp4
  have HK4 : Hid (Keeps w w4 []) := by
    have h := (HK3.out.to_ L).trans st4.keep
    exact Lib.hid (h.more fun b hb' hm => absurd (HL1.out b hm) (by omega))
  clear hp4 st4 HBd
  rw [h1_lay.1]
  obtain ⟨ag, ah, vb, AA, FA, TA, MA, ca, nt, ct, nm, cm, cf, _, hm4⟩ := HP4.out
  have HM4 := Lib.hid hm4
  have hok := (lay_hok (by omega : 9 ≤ 65536) h1 h1_right PH0 PH0.ok h1_fit).1
  have HRd := Lib.hid (hread_any hok hm4 9 (by omega) (by omega) (by decide +kernel))
  clear hm4 hok
  go_wp2_with fail
  refine HRd.out.mono ?_
  rintro e w5 ⟨u, er, rfl, k5, _, hrd⟩
  obtain ⟨rfl, hu⟩ := hrd h1 h1_rg (by rw [h1_size]; omega) h1_vars
  have kk5 := k5.alloc (.cells #[.int .i64 u.k, .int .i64 u.n, .string u.s, .slice u.A u.len u.c] 34)
  have HB5 : Hid (Blk (w5.alloc (.cells #[.int .i64 u.k, .int .i64 u.n, .string u.s, .slice u.A u.len u.c] 34)) w5.heap.size 34 #[.int .i64 u.k, .int .i64 u.n, .string u.s, .slice u.A u.len u.c]) := Blk.new _ _ _
  have HU5 := Lib.hid ((hu.mono (S' := fun _ => True) fun _ _ => trivial).keep ((Keeps.refl w5 []).alloc (.cells #[.int .i64 u.k, .int .i64 u.n, .string u.s, .slice u.A u.len u.c] 34)))
  have HM5 := Lib.hid (HM4.out.keep0 kk5)
  have HK5 := Lib.hid (HK4.out.trans kk5)
  unfold tvV
  clear hu k5 hrd kk5 HRd HP4
  go_upto_region 7 with fail
  generalize w5.alloc (.cells #[.int .i64 u.k, .int .i64 u.n, .string u.s, .slice u.A u.len u.c] 34) = w6 at *
  generalize w5.heap.size = tb at *
  go_wp2_with fail
  refine (HCx.out _ (HTa.out.keep HK5.out)).mono ?_
  rintro e w7 ⟨rfl, k7⟩
  have HK7 := Lib.hid k7
  clear k7
  go_wp2_with fail
  refine (hcells_any (HM5.out.keep0 HK7.out)).mono ?_
  rintro e w8 ⟨A8, c8, rfl, _, k8⟩
  have HK8 := Lib.hid (HK7.out.trans (Keeps.of_below k8 []))
  rw [h1_lay.2.1]
  have hB8 := HB5.out.keep HK8.out (by simp)
  have b0 := hB8.cell 0
  have b1 := hB8.cell 1
  have b2 := hB8.cell 2
  have b3 := hB8.cell 3
  clear k8 hB8
  go_wp2_with fail
  refine (HFr.out u _ (HU5.out.keep HK8.out)).mono ?_
  rintro e w9 ⟨x, rfl, hx, k9⟩
  have HX := Lib.hid (hx.mono (S' := fun _ => True) fun _ _ => trivial)
  have HK9 := Lib.hid (HK8.out.trans k9)
  unfold tvV
  clear hx k9 b0 b1 b2 b3
  go_wp2_with fail
  refine (HTx.out x _ HX.out).mono ?_
  rintro e w10 ⟨rfl, k10⟩
  have HK10 := Lib.hid (HK9.out.trans k10)
  clear k10
  go_wp2_with fail
  refine (hnames_any (HM5.out.keep0 HK10.out)).mono ?_
  rintro e w11 ⟨A, c, A', c', rfl, _, _, k11⟩
  rw [h1_lay.2.2]
  have hfield := names_field1
  have HK11 := Lib.hid (HK5.out.trans (HK10.out.trans k11))
  clear k11
  go_wp2_with fail
  go_ret
  exact ⟨rfl, HK11.out⟩
end Go.Proofs.YtnonfmaehfmigaaDoor

/- Renaming: the program's. Printed by gen_mgren.py a. -/
namespace Go.Proofs.YtnonfmaehfmigaaDoor
open Go.RowKit

end Go.Proofs.YtnonfmaehfmigaaDoor

/- A region that draws its order, walked along a tree: as XText, but where two operations are ready and both write, each is shown to come first. Over any program. -/
namespace Go.Proofs.YtnonfmaehfmigaaDoor
open Go

/-- take: number k is taken first; go: it comes up alone; or: one of two comes up. -/
inductive Sch where
  | done
  | take (k : Nat) (r : Sch)
  | go (k : Nat) (r : Sch)
  | or (k : Nat) (r : Sch) (j : Nat) (s : Sch)

def Sch.isDone : Sch → Bool
  | .done => true
  | _ => false
def Sch.size : Sch → Nat
  | .done => 0
  | .take _ r => r.size + 1
  | .go _ r => r.size + 1
  | .or _ r _ _ => r.size + 1

section
variable {P : Program} {ops : Array Oper} {Q : Exit → Act → World → Prop} {md : Region.Mode} {S : World → Prop}

def wpTz (P : Program) (l : List Oper) (Q : Exit → Act → World → Prop) (S : World → Prop) : Sch → Act → World → Prop
  | .done, a, w => Q .normal a w
  | .take k r, a, w => ∃ o v, nthO l k = some o ∧ YieldsIf P l.toArray S o v a ∧ S w ∧ wpTz P l Q S r (a.put o.dst v) w
  | .go k r, a, w => wpOp P l.toArray Q k (fun a' w' => (r.isDone = false → S w') ∧ wpTz P l Q S r a' w') a w
  | .or k r j s, a, w => wpOp P l.toArray Q k (fun a' w' => S w' ∧ wpTz P l Q S r a' w') a w ∧ wpOp P l.toArray Q j (fun a' w' => S w' ∧ wpTz P l Q S s a' w') a w

def tzB (md : Region.Mode) (ops : Array Oper) (n : Nat) : Sch → Array Bool → Bool
  | .done, listed => (Region.ready md ops listed).isEmpty
  | .take k r, listed => decide (k < n) && (Region.ready md ops listed).contains k && Region.free md ops listed k && tzB md ops n r (listed.setIfInBounds k true)
  | .go k r, listed => decide (Region.ready md ops listed = [k]) && (if k < n then !r.isDone else (k == n && r.isDone)) && tzB md ops n r (listed.setIfInBounds k true)
  | .or k r j s, listed => decide (Region.ready md ops listed = [k, j]) && decide (k < n) && decide (j < n) && decide (r.size = s.size) && tzB md ops n r (listed.setIfInBounds k true) && tzB md ops n s (listed.setIfInBounds j true)
def tzAllB (md : Region.Mode) (l : List Oper) (sched : Sch) : Bool :=
  Region.noSelect l.toArray && decide (0 < l.length) && Region.sinkB md l.toArray (l.length - 1) && Region.chainB md l.toArray (l.length - 1) && decide (sched.size = l.length) && tzB md l.toArray (l.length - 1) sched (Array.replicate l.length false)

theorem wpAnyE_of_tz {l : List Oper} {n : Nat} (hsel : Region.noSelect l.toArray = true) (hQ : ∀ c a d v w, Q (.panic c) (Act.put a d v) w → Q (.panic c) a w) (hs : Region.sinkB md l.toArray n = true) (hc : Region.chainB md l.toArray n = true) (hn : l.toArray.size = n + 1) :
    ∀ (r : Sch) (listed : Array Bool) (a : Act) (w : World), HeadInv md l.toArray n listed ∨ r.isDone = true → tzB md l.toArray n r listed = true → wpTz P l Q S r a w → wpAnyE P md l.toArray Q S n r.size listed a w
  | .done, listed, a, w, _, hB, h => ⟨by simpa [tzB] using hB, h⟩
  | .take k r, listed, a, w, hinv, hB, h => by
    have inv : HeadInv md l.toArray n listed := by rcases hinv with h | h; exact h; cases h
    simp only [tzB, Bool.and_eq_true, decide_eq_true_eq] at hB
    obtain ⟨⟨⟨hk, hr⟩, hf⟩, hB'⟩ := hB
    obtain ⟨o, v, ho, hy, hS, h'⟩ := h
    have h0 : l.toArray[k]? = some o := (nthO_eq l k).trans ho
    have hr' : k ∈ Region.ready md l.toArray listed := by simpa using hr
    exact wpAnyE_first h0 (Region.noSelect_spec hsel) (fun c a w => hQ c a _ _ w) hs hc (by omega) hk r.size listed a w inv (Region.free_spec h0 hf) hr' hy hS
      (wpAnyE_of_tz hsel hQ hs hc hn r _ _ _ (.inl (inv.set hr' hk)) hB' h')
  | .go k r, listed, a, w, hinv, hB, h => by
    have inv : HeadInv md l.toArray n listed := by rcases hinv with h | h; exact h; cases h
    simp only [tzB, Bool.and_eq_true, decide_eq_true_eq] at hB
    obtain ⟨⟨hr, hlast⟩, hB'⟩ := hB
    refine ⟨fun h1 => (by rw [hr] at h1; cases h1), fun i hi => ?_⟩
    have hik : i = k := by rw [hr] at hi; simpa using hi
    subst hik
    have h1 : i ≠ n → r.isDone = false := fun hne => by
      split at hlast
      · simpa using hlast
      · simp at hlast; exact absurd hlast.1 hne
    have h2 : HeadInv md l.toArray n (listed.setIfInBounds i true) ∨ r.isDone = true := by
      split at hlast
      · rename_i hkn; exact .inl (inv.set hi hkn)
      · simp at hlast; exact .inr hlast.2
    exact wpOp_mono (fun a' w' h' => ⟨fun hne => h'.1 (h1 hne), wpAnyE_of_tz hsel hQ hs hc hn r _ a' w' h2 hB' h'.2⟩) h
  | .or k r j s, listed, a, w, hinv, hB, h => by
    have inv : HeadInv md l.toArray n listed := by rcases hinv with h | h; exact h; cases h
    simp only [tzB, Bool.and_eq_true, decide_eq_true_eq] at hB
    obtain ⟨⟨⟨⟨⟨hr, hkn⟩, hjn⟩, hsz⟩, hB1⟩, hB2⟩ := hB
    refine ⟨fun h1 => (by rw [hr] at h1; cases h1), fun i hi => ?_⟩
    have hik : i = k ∨ i = j := by rw [hr] at hi; simpa using hi
    rcases hik with rfl | rfl
    · exact wpOp_mono (fun a' w' h' => ⟨fun _ => h'.1, wpAnyE_of_tz hsel hQ hs hc hn r _ a' w' (.inl (inv.set hi hkn)) hB1 h'.2⟩) h.1
    · refine wpOp_mono (fun a' w' h' => ⟨fun _ => h'.1, ?_⟩) h.2
      rw [hsz]
      exact wpAnyE_of_tz hsel hQ hs hc hn s _ a' w' (.inl (inv.set hi hjn)) hB2 h'.2

theorem wp_region_tz {id : Nat} {l : List Oper} {a : Act} {w : World} (S : World → Prop) (sched : Sch) (hm : P.follows .mixedOrders = true) (hB : tzAllB .any l sched = true)
    (hS : S w.drew) (h : S w.drew → wpTz P l (NoPanic Q) S sched a w.drew) : (Code.region id l.toArray true).wp P Q a w := by
  refine wp_region_noPanic ?_
  have hQ : ∀ c a d v w, NoPanic Q (.panic c) (Act.put a d v) w → NoPanic Q (.panic c) a w := fun _ _ _ _ _ h => h
  simp only [tzAllB, Bool.and_eq_true, decide_eq_true_eq] at hB
  obtain ⟨⟨⟨⟨⟨hsel, hl⟩, hs⟩, hc⟩, hlen⟩, hB⟩ := hB
  have hn : l.toArray.size = (l.length - 1) + 1 := by simp; omega
  have inv0 : HeadInv .any l.toArray (l.length - 1) (Array.replicate l.length false) :=
    ⟨by simp, fun j oj _ hl => (by rw [getD_replicate_false] at hl; cases hl), fun t _ ht => getD_in (by simpa using ht) (getD_replicate_false _ _)⟩
  have H := wpAnyE_of_tz hsel hQ hs hc hn sched _ a w.drew (.inl inv0) hB (h hS)
  rw [hlen] at H
  refine wp_region_any hm (wpAny_of_E (S := S) (n := l.length - 1) _ _ _ _ ?_)
  rw [show l.toArray.size = l.length by simp]
  exact H

theorem wpTz_take {l : List Oper} {k : Nat} {r : Sch} {o : Oper} {v : Value} {a : Act} {w : World} (ho : nthO l k = some o) (hS : S w)
    (hy : ∀ w, S w → (execOp a.eval o).run P w = .ok (.value v) w) (hw : Region.wanted o (yielded l.toArray a.tmps) = true) (h : wpTz P l Q S r (a.put o.dst v) w) : wpTz P l Q S (.take k r) a w :=
  ⟨o, v, ho, .inl ⟨hw, hy⟩, hS, h⟩
theorem wpTz_skip {l : List Oper} {k : Nat} {r : Sch} {o : Oper} {a : Act} {w : World} (ho : nthO l k = some o) (hS : S w)
    (hw : Region.wanted o (yielded l.toArray a.tmps) = false) (h : wpTz P l Q S r (a.put o.dst undef) w) : wpTz P l Q S (.take k r) a w :=
  ⟨o, undef, ho, .inr ⟨hw, rfl⟩, hS, h⟩
theorem wpTz_go {l : List Oper} {k : Nat} {r : Sch} {o : Oper} {a : Act} {w : World} (ho : nthO l k = some o)
    (h : ∀ K : Act → World → Prop, Shut (∀ a w, S w → (S w → wpTz P l Q S r a w) → K a w) → if Region.wanted o (yielded l.toArray a.tmps) = true then Oper.wp P o a w K Q else K (a.put o.dst undef) w) : wpTz P l Q S (.go k r) a w :=
  wpOp_step ((nthO_eq l k).trans ho) (fun K hK => h K (fun a w hS hW => hK a w ⟨fun _ => hS, hW hS⟩))
theorem wpTz_or {l : List Oper} {k j : Nat} {r s : Sch} {o p : Oper} {a : Act} {w : World} (ho : nthO l k = some o) (hp : nthO l j = some p)
    (h : ∀ K : Act → World → Prop, Shut (∀ a w, S w → (S w → wpTz P l Q S r a w) → K a w) → if Region.wanted o (yielded l.toArray a.tmps) = true then Oper.wp P o a w K Q else K (a.put o.dst undef) w)
    (h2 : ∀ K : Act → World → Prop, Shut (∀ a w, S w → (S w → wpTz P l Q S s a w) → K a w) → if Region.wanted p (yielded l.toArray a.tmps) = true then Oper.wp P p a w K Q else K (a.put p.dst undef) w) : wpTz P l Q S (.or k r j s) a w :=
  ⟨wpOp_step ((nthO_eq l k).trans ho) (fun K hK => h K (fun a w hS hW => hK a w ⟨hS, hW hS⟩)), wpOp_step ((nthO_eq l j).trans hp) (fun K hK => h2 K (fun a w hS hW => hK a w ⟨hS, hW hS⟩))⟩
theorem wpTz_last {l : List Oper} {k : Nat} {o : Oper} {a : Act} {w : World} (ho : nthO l k = some o)
    (h : ∀ K : Act → World → Prop, Shut (∀ a w, Q .normal a w → K a w) → if Region.wanted o (yielded l.toArray a.tmps) = true then Oper.wp P o a w K Q else K (a.put o.dst undef) w) : wpTz P l Q S (.go k .done) a w :=
  wpOp_step ((nthO_eq l k).trans ho) (fun K hK => h K (fun a w hq => hK a w ⟨fun h => absurd h (by simp [Sch.isDone]), hq⟩))
end
end Go.Proofs.YtnonfmaehfmigaaDoor

/- Terms: the document's Vars. -/
namespace Go.Proofs.YtnonfmaehfmigaaDoor
open Go.RowKit

set_option maxHeartbeats 400000 in
theorem refHas_any (x : Int) (A : Option Addr) (n c : Nat) (l : List Int) (w : World) (hl : l.length = n) (hn : n ≤ 9223372036854775807) (hA : Nums .i64 w w.heap.size A l) :
    Calls Tryd.prog 93 #[.slice A n c, .int .i64 x] w fun e w' => e = .returned (.bool (l.any (hasI x))) ∧ w = w' := by
  have HL := Lib.hid hl
  have HA := Lib.hid hA
  clear hl hA
  go_enter Tryd.func93, Tryd.ntmps93
  go_wp2_with fail
  go_loop [5] (fun i => ∃ k : Nat, k ≤ n ∧ i = .int .i64 k ∧ Hid (∀ y ∈ l.take k, hasI x y = false)) (fun i => n - (intOf i).toNat)
  case atStart => exact ⟨0, Nat.zero_le _, rfl, fun y hy => by simp at hy⟩
  case round =>
    obtain ⟨k, hk, rfl, HB⟩ := hrel
    by_cases hlt : k < n
    · obtain ⟨b, off, y, rfl, _, hc, hx⟩ := HA.out k (by rw [HL.out]; exact hlt)
      have HX := Lib.hid hx
      clear hx
      have b0 : (0 : Int) ≤ (k : Int) := Int.natCast_nonneg _
      have b1 : (k : Int) < (n : Int) := by omega
      cases hp : (y == x) with
      | true =>
        have hp2 : hasI x y = true := by
          unfold hasI
          rw [beq_iff_eq] at hp ⊢
          exact hp.symm
        have HI : Hid (l.any (hasI x) = true) := List.any_eq_true.2 ⟨y, List.mem_of_getElem? HX.out, hp2⟩
        clear hp2
        go_wp2_with fail
        go_ret
        exact ⟨by rw [HI.out]; rfl, rfl⟩
      | false =>
        have hp2 : hasI x y = false := by
          unfold hasI
          cases h9 : (x == y) with
          | false => rfl
          | true => rw [beq_iff_eq] at h9; subst h9; simp at hp
        have HB2 : Hid (∀ y ∈ l.take (k + 1), hasI x y = false) := take_snoc_all HX.out hp2 HB.out
        clear hp2
        go_wp2_with fail
        go_round
        case rel => exact ⟨k + 1, by omega, by go_num, HB2⟩
        case measure => simp [intOf]; omega
    · obtain rfl : n = k := by omega
      have HI : Hid (l.any (hasI x) = false) := by
        have h9 := HB.out
        rw [List.take_of_length_le (by rw [HL.out]; omega)] at h9
        exact List.any_eq_false.2 fun y hy => by rw [h9 y hy]; simp
      go_wp2_with fail
      go_ret
      exact ⟨by rw [HI.out]; rfl, rfl⟩

/-- What vars tells. -/
def IntsDone (w : World) (l : List Int) (e : Ending) (w' : World) : Prop := ∃ A c, e = .returned (.slice A l.length c) ∧ Nums .i64 w' w'.heap.size A l ∧ (A = none → c = 0) ∧ Keeps w w' []
set_option maxRecDepth 100000 in
set_option maxHeartbeats 1600000 in
theorem refVars1_any (t : Tm) : ∀ (v : TV) (w : World) (A : Option Addr) (c n : Nat) (acc : List Int), Tr w (fun _ => True) t v → tRight t = true → Nums .i64 w w.heap.size A acc → (A = none → c = 0) → acc.length = n → (tWalk acc t).length ≤ 1000000 → Calls Tryd.prog 82 #[tvV v, .slice A n c] w (IntsDone w (tWalk acc t)) := by
  induction t using Tm.ind_ with
  | h k n s l ih =>
    intro v w A c na acc ht hrt hN hA hna hsz
    cases ht with
    | mk _ _ _ _ A0 c0 vs hl hR hS hc hz hk =>
    rw [tRight, Bool.and_eq_true] at hrt
    obtain ⟨hall, hrt⟩ := hrt
    have HRt : Hid (∀ a ∈ l, tRight a = true) := (tRights_all l).1 hall
    have HT : Hid (Trs w (fun _ => True) l vs) := ⟨hl, hk⟩
    have HR := Lib.hid hR
    have HI := Lib.hid ih
    have HNa := Lib.hid hN
    have HAz := Lib.hid hA
    have HNn := Lib.hid hna
    obtain ⟨m, hm⟩ : ∃ m, l.length = m := ⟨_, rfl⟩
    have HM := Lib.hid hm
    have hmb : m ≤ 9223372036854775807 := by omega
    have HZ : Hid ((tWalk acc (.mk k n s l)).length ≤ 1000000) := hsz
    have hnb : na ≤ 1000000 := by have := tWalk_ge acc (.mk k n s l); omega
    unfold tvV
    rw [hm] at hrt
    simp only [hm]
    have HB0 : Hid (Blk (w.alloc (.cells #[.int .i64 k, .int .i64 n, .string s, .slice A0 m c0] 24)) w.heap.size 24 #[.int .i64 k, .int .i64 n, .string s, .slice A0 m c0]) := Blk.new _ _ _
    have HK0 : Hid (Keeps w (w.alloc (.cells #[.int .i64 k, .int .i64 n, .string s, .slice A0 m c0] 24)) []) := (Keeps.refl w []).alloc _
    by_cases h0 : k = 0
    · subst h0
      rw [if_pos rfl] at hrt
      simp only [Bool.and_eq_true, decide_eq_true_eq] at hrt
      obtain rfl : l = [] := List.length_eq_zero_iff.1 (by rw [hm]; exact hrt.2)
      have HW : Hid (tWalk acc (.mk 0 n s []) = addV acc n) := by show _ = _; rw [tWalk, if_pos rfl, tWalks]
      have HH := Lib.hid (refHas_any n A na c acc _ hna (by omega) ((hN.keep (fun p hp => HK0.out.cell hp (by simp))).more HK0.out.size))
      clear hl hR hS hc hz hk ih hall hm hN hA hna hsz hrt
      go_enter Tryd.func82, Tryd.ntmps82
      cases hh : acc.any (hasI n) with
      | true =>
        rw [hh] at HH
        have HA2 : Hid (addV acc n = acc) := by show _ = _; rw [addV, if_pos hh]
        clear hh
        go_wp2_with fail
        refine HH.out.mono ?_
        rintro e w1 ⟨rfl, rfl⟩
        go_wp2_with fail
        go_ret
        exact ⟨A, c, by rw [HW.out, HA2.out, HNn.out]; rfl, by rw [HW.out, HA2.out]; exact (HNa.out.keep (fun p hp => HK0.out.cell hp (by simp))).more HK0.out.size, HAz.out, HK0.out⟩
      | false =>
        rw [hh] at HH
        have HF : Hid (∀ A' c' w', w'.ownsRow (w.alloc (.cells #[.int .i64 0, .int .i64 n, .string s, .slice A0 m c0] 24)).heap.size 3 1 (.slice A' (na + 1) c') (na + 1) (acc.map (Value.int .i64) ++ [.int .i64 n]) → Keeps (w.alloc (.cells #[.int .i64 0, .int .i64 n, .string s, .slice A0 m c0] 24)) w' [] → IntsDone w (tWalk acc (.mk 0 n s [])) (.returned (.slice A' (na + 1) c')) w') := fun A' c' w' ho k => by
          have hl : (tWalk acc (.mk 0 n s [])) = acc ++ [n] := by rw [HW.out, addV, if_neg (by rw [hh]; simp)]
          rw [hl]
          have ho' : w'.ownsRow (w.alloc (.cells #[.int .i64 0, .int .i64 n, .string s, .slice A0 m c0] 24)).heap.size 3 1 (.slice A' (na + 1) c') (na + 1) ((acc ++ [n]).map (Value.int .i64)) := by rw [List.map_append]; exact ho
          obtain ⟨A3, c3, hv, hz, hN⟩ := Nums.of_own ho'
          injection hv with h1 h2 h3
          subst h1
          subst h3
          exact ⟨A', c', by rw [List.length_append, HNn.out]; rfl, hN, fun e => by subst e; exact own_zeroN ho', HK0.out.trans k⟩
        have HG : Hid (Nums .i64 (w.alloc (.cells #[.int .i64 0, .int .i64 n, .string s, .slice A0 m c0] 24)) (w.alloc (.cells #[.int .i64 0, .int .i64 n, .string s, .slice A0 m c0] 24)).heap.size A acc) := (HNa.out.keep (fun p hp => HK0.out.cell hp (by simp))).more HK0.out.size
        have HS : Hid (∀ W', Keeps (w.alloc (.cells #[.int .i64 0, .int .i64 n, .string s, .slice A0 m c0] 24)) W' [] → W'.cell? ⟨w.heap.size, 1, none⟩ = some (.int .i64 n)) := fun W' k => (HB0.out.keep k (by simp)).cell 1
        clear hh HK0
        go_wp2_with fail
        refine HH.out.mono ?_
        rintro e w1 ⟨rfl, rfl⟩
        go_wp2_with fail
        clear HH HB0 HW
        generalize hw0 : w.alloc (.cells #[.int .i64 0, .int .i64 n, .string s, .slice A0 m c0] 24) = w0 at HF HG HS ⊢
        clear hw0
        refine wp_region_tz (fun W' => W'.cell? ⟨w.heap.size, 1, none⟩ = some (.int .i64 n)) (.take 1 (.take 3 (.take 4 (.or 0 (.or 2 (.go 5 (.go 6 (.go 7 .done))) 5 (.go 2 (.go 6 (.go 7 .done)))) 5 (.go 0 (.go 2 (.go 6 (.go 7 .done)))))))) (by kernel_rfl) (by kernel_rfl) (by exact HS.out _ (Keeps.refl _ []).drew) (fun hHeld => ?_)
        (repeat (first | (refine wpTz_take (v := ?_) rfl (by assumption) ?_ (by rfl) ?_; rotate_left; (focus (intro w' hSw; (try dsimp only at hSw); go_simp; (try with_reducible rfl); done)); simp only [Act.put, List.setIfInBounds_toArray, List.set_cons_zero, List.set_cons_succ]) | (refine wpTz_skip rfl (by assumption) (by rfl) ?_; simp only [Act.put, List.setIfInBounds_toArray, List.set_cons_zero, List.set_cons_succ])))
        refine wpTz_or rfl rfl (fun K hK => ?_) (fun K hK => ?_)
        · go_simp
          refine hK.out _ _ ?_ ?_
          · exact HS.out _ ((Keeps.refl w0 []).drew.alloc _)
          (clear hHeld; intro hHeld; clear hK K; (try simp only [Act.put, List.setIfInBounds_toArray, List.set_cons_zero, List.set_cons_succ]))
          (repeat (first | (refine wpTz_take (v := ?_) rfl (by assumption) ?_ (by rfl) ?_; rotate_left; (focus (intro w' hSw; (try dsimp only at hSw); go_simp; (try with_reducible rfl); done)); simp only [Act.put, List.setIfInBounds_toArray, List.set_cons_zero, List.set_cons_succ]) | (refine wpTz_skip rfl (by assumption) (by rfl) ?_; simp only [Act.put, List.setIfInBounds_toArray, List.set_cons_zero, List.set_cons_succ])))
          refine wpTz_or rfl rfl (fun K hK => ?_) (fun K hK => ?_)
          · refine step_app _ el_int (by rfl) _ _ (by rfl) w0.heap.size (some ⟨w0.heap.size, 0, none⟩) 0 0 [] (by rfl) (own_empty w0.drew _) A na c (acc.map (Value.int .i64)) (by rfl) ((show Rd w0 A (acc.map (Value.int .i64)) from HG.out.toRow).keep ((Keeps.refl w0 []).drew.alloc _)) (by simp [HNn.out]) HAz.out (oneCell_ints _ _) (by omega) (by simp <;> omega) ?_
            intro A1 c1 w3 hown hgrow hat
            simp only [Nat.zero_add, List.nil_append] at hown hat ⊢
            have k3 : Keeps w0 w3 [] := ((Keeps.refl w0 []).drew.alloc _).app (own_empty w0.drew _) (Nat.le_refl _) hgrow
            refine hK.out _ _ ?_ ?_
            · exact HS.out _ (k3)
            (clear hHeld; intro hHeld; clear hK K; (try simp only [Act.put, List.setIfInBounds_toArray, List.set_cons_zero, List.set_cons_succ]))
            (repeat (first | (refine wpTz_take (v := ?_) rfl (by assumption) ?_ (by rfl) ?_; rotate_left; (focus (intro w' hSw; (try dsimp only at hSw); go_simp; (try with_reducible rfl); done)); simp only [Act.put, List.setIfInBounds_toArray, List.set_cons_zero, List.set_cons_succ]) | (refine wpTz_skip rfl (by assumption) (by rfl) ?_; simp only [Act.put, List.setIfInBounds_toArray, List.set_cons_zero, List.set_cons_succ])))
            refine wpTz_go rfl (fun K hK => ?_)
            go_simp
            refine hK.out _ _ ?_ ?_
            · exact HS.out _ (k3.alloc _)
            (clear hHeld; intro hHeld; clear hK K; (try simp only [Act.put, List.setIfInBounds_toArray, List.set_cons_zero, List.set_cons_succ]))
            (repeat (first | (refine wpTz_take (v := ?_) rfl (by assumption) ?_ (by rfl) ?_; rotate_left; (focus (intro w' hSw; (try dsimp only at hSw); go_simp; (try with_reducible rfl); done)); simp only [Act.put, List.setIfInBounds_toArray, List.set_cons_zero, List.set_cons_succ]) | (refine wpTz_skip rfl (by assumption) (by rfl) ?_; simp only [Act.put, List.setIfInBounds_toArray, List.set_cons_zero, List.set_cons_succ])))
            refine wpTz_go rfl (fun K hK => ?_)
            refine step_app _ el_int (by rfl) _ _ (by rfl) w0.heap.size A1 na c1 (acc.map (Value.int .i64)) (by rfl) (own_keep0 hown ((Keeps.refl w3 []).alloc _)) (some ⟨w3.heap.size, 0, none⟩) 1 1 [.int .i64 n] (by rfl) (Rd.one w3 _ [.int .i64 n]) rfl (by simp) (by simp [Value.oneCell']) (by omega) (by have := k3.size; first | omega | (simp; omega)) ?_
            intro A2 c2 w9 hown2 hgrow2 hat2
            have k9 : Keeps w0 w9 [] := (k3.alloc _).app (own_keep0 hown ((Keeps.refl w3 []).alloc _)) (Nat.le_refl _) hgrow2
            refine hK.out _ _ ?_ ?_
            · exact HS.out _ k9
            (clear hHeld; intro hHeld; clear hK K; (try simp only [Act.put, List.setIfInBounds_toArray, List.set_cons_zero, List.set_cons_succ]))
            (repeat (first | (refine wpTz_take (v := ?_) rfl (by assumption) ?_ (by rfl) ?_; rotate_left; (focus (intro w' hSw; (try dsimp only at hSw); go_simp; (try with_reducible rfl); done)); simp only [Act.put, List.setIfInBounds_toArray, List.set_cons_zero, List.set_cons_succ]) | (refine wpTz_skip rfl (by assumption) (by rfl) ?_; simp only [Act.put, List.setIfInBounds_toArray, List.set_cons_zero, List.set_cons_succ])))
            refine wpTz_last rfl (fun K hK => ?_)
            go_simp
            refine hK.out _ _ (NoPanic.normal ?_); clear hK K; (try simp only [Act.put, List.setIfInBounds_toArray, List.set_cons_zero, List.set_cons_succ])
            go_wp2_with fail
            go_ret
            exact HF.out A2 c2 w9 hown2 k9
          · go_simp
            refine hK.out _ _ ?_ ?_
            · exact HS.out _ ((((Keeps.refl w0 []).drew.alloc _).alloc _))
            (clear hHeld; intro hHeld; clear hK K; (try simp only [Act.put, List.setIfInBounds_toArray, List.set_cons_zero, List.set_cons_succ]))
            (repeat (first | (refine wpTz_take (v := ?_) rfl (by assumption) ?_ (by rfl) ?_; rotate_left; (focus (intro w' hSw; (try dsimp only at hSw); go_simp; (try with_reducible rfl); done)); simp only [Act.put, List.setIfInBounds_toArray, List.set_cons_zero, List.set_cons_succ]) | (refine wpTz_skip rfl (by assumption) (by rfl) ?_; simp only [Act.put, List.setIfInBounds_toArray, List.set_cons_zero, List.set_cons_succ])))
            refine wpTz_go rfl (fun K hK => ?_)
            refine step_app _ el_int (by rfl) _ _ (by rfl) w0.heap.size (some ⟨w0.heap.size, 0, none⟩) 0 0 [] (by rfl) (own_keep0 (own_empty w0.drew _) ((Keeps.refl _ []).alloc _)) A na c (acc.map (Value.int .i64)) (by rfl) ((show Rd w0 A (acc.map (Value.int .i64)) from HG.out.toRow).keep (((Keeps.refl w0 []).drew.alloc _).alloc _)) (by simp [HNn.out]) HAz.out (oneCell_ints _ _) (by omega) (by simp <;> omega) ?_
            intro A1 c1 w3 hown hgrow hat
            simp only [Nat.zero_add, List.nil_append] at hown hat ⊢
            have k3 : Keeps w0 w3 [] := (((Keeps.refl w0 []).drew.alloc _).alloc _).app (own_keep0 (own_empty w0.drew _) ((Keeps.refl _ []).alloc _)) (Nat.le_refl _) hgrow
            have hlit : Rd w3 (some ⟨w0.heap.size + 1, 0, none⟩) [.int .i64 n] := (by rw [show w0.heap.size + 1 = (w0.drew.alloc (.cells #[] 3)).heap.size from (World.size_alloc _ _).symm]; exact (Rd.one (w0.drew.alloc (.cells #[] 3)) 3 [.int .i64 n]).keepL (Keeps.ofGrown hgrow) (fun b off e _ hm => by simp [ownL, Value.ownBlock] at hm; subst hm; revert e; simp))
            refine hK.out _ _ ?_ ?_
            · exact HS.out _ (k3)
            (clear hHeld; intro hHeld; clear hK K; (try simp only [Act.put, List.setIfInBounds_toArray, List.set_cons_zero, List.set_cons_succ]))
            (repeat (first | (refine wpTz_take (v := ?_) rfl (by assumption) ?_ (by rfl) ?_; rotate_left; (focus (intro w' hSw; (try dsimp only at hSw); go_simp; (try with_reducible rfl); done)); simp only [Act.put, List.setIfInBounds_toArray, List.set_cons_zero, List.set_cons_succ]) | (refine wpTz_skip rfl (by assumption) (by rfl) ?_; simp only [Act.put, List.setIfInBounds_toArray, List.set_cons_zero, List.set_cons_succ])))
            refine wpTz_go rfl (fun K hK => ?_)
            refine step_app _ el_int (by rfl) _ _ (by rfl) w0.heap.size A1 na c1 (acc.map (Value.int .i64)) (by rfl) (hown) (some ⟨w0.heap.size + 1, 0, none⟩) 1 1 [.int .i64 n] (by rfl) (hlit) rfl (by simp) (by simp [Value.oneCell']) (by omega) (by have := k3.size; first | omega | (simp; omega)) ?_
            intro A2 c2 w9 hown2 hgrow2 hat2
            have k9 : Keeps w0 w9 [] := (k3).app (hown) (Nat.le_refl _) hgrow2
            refine hK.out _ _ ?_ ?_
            · exact HS.out _ k9
            (clear hHeld; intro hHeld; clear hK K; (try simp only [Act.put, List.setIfInBounds_toArray, List.set_cons_zero, List.set_cons_succ]))
            (repeat (first | (refine wpTz_take (v := ?_) rfl (by assumption) ?_ (by rfl) ?_; rotate_left; (focus (intro w' hSw; (try dsimp only at hSw); go_simp; (try with_reducible rfl); done)); simp only [Act.put, List.setIfInBounds_toArray, List.set_cons_zero, List.set_cons_succ]) | (refine wpTz_skip rfl (by assumption) (by rfl) ?_; simp only [Act.put, List.setIfInBounds_toArray, List.set_cons_zero, List.set_cons_succ])))
            refine wpTz_last rfl (fun K hK => ?_)
            go_simp
            refine hK.out _ _ (NoPanic.normal ?_); clear hK K; (try simp only [Act.put, List.setIfInBounds_toArray, List.set_cons_zero, List.set_cons_succ])
            go_wp2_with fail
            go_ret
            exact HF.out A2 c2 w9 hown2 k9
        · go_simp
          refine hK.out _ _ ?_ ?_
          · exact HS.out _ ((Keeps.refl w0 []).drew.alloc _)
          (clear hHeld; intro hHeld; clear hK K; (try simp only [Act.put, List.setIfInBounds_toArray, List.set_cons_zero, List.set_cons_succ]))
          (repeat (first | (refine wpTz_take (v := ?_) rfl (by assumption) ?_ (by rfl) ?_; rotate_left; (focus (intro w' hSw; (try dsimp only at hSw); go_simp; (try with_reducible rfl); done)); simp only [Act.put, List.setIfInBounds_toArray, List.set_cons_zero, List.set_cons_succ]) | (refine wpTz_skip rfl (by assumption) (by rfl) ?_; simp only [Act.put, List.setIfInBounds_toArray, List.set_cons_zero, List.set_cons_succ])))
          refine wpTz_go rfl (fun K hK => ?_)
          go_simp
          refine hK.out _ _ ?_ ?_
          · exact HS.out _ ((((Keeps.refl w0 []).drew.alloc _).alloc _))
          (clear hHeld; intro hHeld; clear hK K; (try simp only [Act.put, List.setIfInBounds_toArray, List.set_cons_zero, List.set_cons_succ]))
          (repeat (first | (refine wpTz_take (v := ?_) rfl (by assumption) ?_ (by rfl) ?_; rotate_left; (focus (intro w' hSw; (try dsimp only at hSw); go_simp; (try with_reducible rfl); done)); simp only [Act.put, List.setIfInBounds_toArray, List.set_cons_zero, List.set_cons_succ]) | (refine wpTz_skip rfl (by assumption) (by rfl) ?_; simp only [Act.put, List.setIfInBounds_toArray, List.set_cons_zero, List.set_cons_succ])))
          refine wpTz_go rfl (fun K hK => ?_)
          refine step_app _ el_int (by rfl) _ _ (by rfl) w0.heap.size (some ⟨w0.heap.size + 1, 0, none⟩) 0 0 [] (by rfl) (by rw [show w0.heap.size + 1 = (w0.drew.alloc (.cells #[.int .i64 n] 3)).heap.size from (World.size_alloc _ _).symm]; exact own_base (own_empty (w0.drew.alloc (.cells #[.int .i64 n] 3)) _) (by simp)) A na c (acc.map (Value.int .i64)) (by rfl) ((show Rd w0 A (acc.map (Value.int .i64)) from HG.out.toRow).keep (((Keeps.refl w0 []).drew.alloc _).alloc _)) (by simp [HNn.out]) HAz.out (oneCell_ints _ _) (by omega) (by simp <;> omega) ?_
          intro A1 c1 w3 hown hgrow hat
          simp only [Nat.zero_add, List.nil_append] at hown hat ⊢
          have k3 : Keeps w0 w3 [] := (((Keeps.refl w0 []).drew.alloc _).alloc _).app (by rw [show w0.heap.size + 1 = (w0.drew.alloc (.cells #[.int .i64 n] 3)).heap.size from (World.size_alloc _ _).symm]; exact own_base (own_empty (w0.drew.alloc (.cells #[.int .i64 n] 3)) _) (by simp)) (Nat.le_refl _) hgrow
          have hlit : Rd w3 (some ⟨w0.heap.size, 0, none⟩) [.int .i64 n] := (((Rd.one w0.drew 3 [.int .i64 n]).keep ((Keeps.refl _ []).alloc _)).keepL (Keeps.ofGrown hgrow) (fun b off e _ hm => by simp [ownL, Value.ownBlock] at hm; subst hm; revert e; simp))
          refine hK.out _ _ ?_ ?_
          · exact HS.out _ (k3)
          (clear hHeld; intro hHeld; clear hK K; (try simp only [Act.put, List.setIfInBounds_toArray, List.set_cons_zero, List.set_cons_succ]))
          (repeat (first | (refine wpTz_take (v := ?_) rfl (by assumption) ?_ (by rfl) ?_; rotate_left; (focus (intro w' hSw; (try dsimp only at hSw); go_simp; (try with_reducible rfl); done)); simp only [Act.put, List.setIfInBounds_toArray, List.set_cons_zero, List.set_cons_succ]) | (refine wpTz_skip rfl (by assumption) (by rfl) ?_; simp only [Act.put, List.setIfInBounds_toArray, List.set_cons_zero, List.set_cons_succ])))
          refine wpTz_go rfl (fun K hK => ?_)
          refine step_app _ el_int (by rfl) _ _ (by rfl) w0.heap.size A1 na c1 (acc.map (Value.int .i64)) (by rfl) (hown) (some ⟨w0.heap.size, 0, none⟩) 1 1 [.int .i64 n] (by rfl) (hlit) rfl (by simp) (by simp [Value.oneCell']) (by omega) (by have := k3.size; first | omega | (simp; omega)) ?_
          intro A2 c2 w9 hown2 hgrow2 hat2
          have k9 : Keeps w0 w9 [] := (k3).app (hown) (Nat.le_refl _) hgrow2
          refine hK.out _ _ ?_ ?_
          · exact HS.out _ k9
          (clear hHeld; intro hHeld; clear hK K; (try simp only [Act.put, List.setIfInBounds_toArray, List.set_cons_zero, List.set_cons_succ]))
          (repeat (first | (refine wpTz_take (v := ?_) rfl (by assumption) ?_ (by rfl) ?_; rotate_left; (focus (intro w' hSw; (try dsimp only at hSw); go_simp; (try with_reducible rfl); done)); simp only [Act.put, List.setIfInBounds_toArray, List.set_cons_zero, List.set_cons_succ]) | (refine wpTz_skip rfl (by assumption) (by rfl) ?_; simp only [Act.put, List.setIfInBounds_toArray, List.set_cons_zero, List.set_cons_succ])))
          refine wpTz_last rfl (fun K hK => ?_)
          go_simp
          refine hK.out _ _ (NoPanic.normal ?_); clear hK K; (try simp only [Act.put, List.setIfInBounds_toArray, List.set_cons_zero, List.set_cons_succ])
          go_wp2_with fail
          go_ret
          exact HF.out A2 c2 w9 hown2 k9
    · rw [if_neg h0] at hrt
      have e0 : (k == 0) = false := by simpa using h0
      have HW : Hid (tWalk acc (.mk k n s l) = tWalks acc l) := by show _ = _; rw [tWalk, if_neg h0]
      clear hl hR hS hc hz hk ih hall hm hN hA hna hsz hrt
      unfold IntsDone
      go_enter Tryd.func82, Tryd.ntmps82
      go_wp2_with fail
      go_loopw [1, 5] (fun x i wr => ∃ (j : Nat) (A1 : Option Addr) (c1 : Nat), j ≤ m ∧ i = .int .i64 j ∧ x = .slice A1 (tWalks acc (l.take j)).length c1 ∧ Nums .i64 wr wr.heap.size A1 (tWalks acc (l.take j)) ∧ (A1 = none → c1 = 0) ∧ Keeps w wr [] ∧ Blk wr w.heap.size 24 #[.int .i64 k, .int .i64 n, .string s, .slice A0 m c0]) (fun _ i _ => m - (intOf i).toNat)
      case atStart => exact ⟨0, A, c, Nat.zero_le _, rfl, by simp [tWalks, HNn.out], by simpa [tWalks] using (HNa.out.keep (fun p hp => HK0.out.cell hp (by simp))).more HK0.out.size, HAz.out, HK0.out, HB0.out⟩
      case round =>
        clear HB0 HK0
        obtain ⟨j, A1, c1, hj, rfl, rfl, hn1, hz1, hk, hb⟩ := hrel
        have HN1 := Lib.hid hn1
        have HZ1 := Lib.hid hz1
        have HK := Lib.hid hk
        have HB := Lib.hid hb
        have q3 := hb.cell 3
        clear hn1 hz1 hk hb
        by_cases hlt : j < m
        · obtain ⟨a, hx⟩ := at_of HM.out hlt
          have ha := List.mem_of_getElem? hx
          have htk : l.take (j + 1) = l.take j ++ [a] := by rw [List.take_add_one, hx]; rfl
          have HN2 : Hid (tWalks acc (l.take (j + 1)) = tWalk (tWalks acc (l.take j)) a) := by show _ = _; rw [htk, tWalks_snoc]
          have hlen : (tWalk (tWalks acc (l.take j)) a).length ≤ 1000000 := by
            have h9 := HZ.out
            rw [HW.out] at h9
            rw [← HN2.out]
            exact Nat.le_trans (tWalks_take acc l (j + 1)) h9
          obtain ⟨v', b, off, _, htr, rfl, hb, p0, p1, p2, p3⟩ := (HT.out.keep HK.out).get (HR.out.keep HK.out) hx
          have hca := HI.out a ha v' wr A1 c1 _ _ htr (HRt.out a ha) HN1.out HZ1.out rfl hlen
          unfold tvV IntsDone at hca
          rw [← HN2.out] at hca
          have HC := Lib.hid hca
          clear hca htr hx ha htk hlen
          have b0 : (0 : Int) ≤ (j : Int) := Int.natCast_nonneg _
          have b1 : (j : Int) < (m : Int) := by omega
          go_wp2_with fail
          refine HC.out.mono ?_
          rintro e w2 ⟨A2, c2, rfl, hn2, hz2, k2⟩
          have HN3 := Lib.hid hn2
          clear hn2
          go_wp2_with fail
          go_roundw
          case rel => exact ⟨j + 1, A2, c2, by omega, by go_num, rfl, HN3.out, hz2, HK.out.trans k2, HB.out.keep k2 (by simp)⟩
          case measure => simp [intOf]; omega
        · obtain rfl : m = j := by omega
          have htk : l.take m = l := by rw [← HM.out, List.take_length]
          rw [htk] at HN1 ⊢
          clear hlt hj
          go_wp2_with fail
          go_ret
          exact ⟨A1, c1, by rw [HW.out]; rfl, by rw [HW.out]; exact HN1.out, HZ1.out, HK.out⟩
end Go.Proofs.YtnonfmaehfmigaaDoor

/- Terms: the document's Vars, whole. -/
namespace Go.Proofs.YtnonfmaehfmigaaDoor
open Go.RowKit

set_option maxHeartbeats 1600000 in
theorem refVarsL_any (l : List Tm) (vs : List TV) (A : Option Addr) (m c : Nat) (w : World) (hT : Trs w (fun _ => True) l vs) (hR : Rd w A (vs.flatMap tvE)) (hm : l.length = m) (hmb : m ≤ 9223372036854775807) (hsz : (tVars l).length ≤ 1000000) (hrt : ∀ a ∈ l, tRight a = true) :
    Calls Tryd.prog 66 #[.slice A m c] w fun e w' => ∃ A' c', e = .returned (.slice A' (tVars l).length c') ∧ Nums .i64 w' w'.heap.size A' (tVars l) ∧ Keeps w w' [] := by
  have HT := Lib.hid hT
  have HR := Lib.hid hR
  have HM := Lib.hid hm
  have HZ : Hid ((tWalks [] l).length ≤ 1000000) := hsz
  have HRt := Lib.hid hrt
  clear hT hR hm hsz hrt
  go_enter Tryd.func66, Tryd.ntmps66
  go_wp2_with fail
  go_loopw [3, 4] (fun x i wr => ∃ (j : Nat) (A1 : Option Addr) (c1 : Nat), j ≤ m ∧ i = .int .i64 j ∧ x = .slice A1 (tWalks [] (l.take j)).length c1 ∧ Nums .i64 wr wr.heap.size A1 (tWalks [] (l.take j)) ∧ (A1 = none → c1 = 0) ∧ Keeps w wr []) (fun _ i _ => m - (intOf i).toNat)
  case atStart => exact ⟨0, none, 0, Nat.zero_le _, rfl, by simp [tWalks], by simpa [tWalks] using Nums.nil, fun _ => rfl, Keeps.refl _ _⟩
  case round =>
    obtain ⟨j, A1, c1, hj, rfl, rfl, hn1, hz1, hk⟩ := hrel
    have HN1 := Lib.hid hn1
    have HZ1 := Lib.hid hz1
    have HK := Lib.hid hk
    clear hn1 hz1 hk
    by_cases hlt : j < m
    · obtain ⟨a, hx⟩ := at_of HM.out hlt
      have ha := List.mem_of_getElem? hx
      have htk : l.take (j + 1) = l.take j ++ [a] := by rw [List.take_add_one, hx]; rfl
      have HN2 : Hid (tWalks [] (l.take (j + 1)) = tWalk (tWalks [] (l.take j)) a) := by show _ = _; rw [htk, tWalks_snoc]
      have hlen : (tWalk (tWalks [] (l.take j)) a).length ≤ 1000000 := by
        rw [← HN2.out]
        exact Nat.le_trans (tWalks_take [] l (j + 1)) HZ.out
      obtain ⟨v', b, off, _, htr, rfl, hb, p0, p1, p2, p3⟩ := (HT.out.keep HK.out).get (HR.out.keep HK.out) hx
      have hca := refVars1_any a v' wr A1 c1 _ _ htr (HRt.out a ha) HN1.out HZ1.out rfl hlen
      unfold tvV IntsDone at hca
      rw [← HN2.out] at hca
      have HC := Lib.hid hca
      clear hca htr hx ha htk hlen
      have b0 : (0 : Int) ≤ (j : Int) := Int.natCast_nonneg _
      have b1 : (j : Int) < (m : Int) := by omega
      go_wp2_with fail
      refine HC.out.mono ?_
      rintro e w2 ⟨A2, c2, rfl, hn2, hz2, k2⟩
      have HN3 := Lib.hid hn2
      clear hn2
      go_wp2_with fail
      go_roundw
      case rel => exact ⟨j + 1, A2, c2, by omega, by go_num, rfl, HN3.out, hz2, HK.out.trans k2⟩
      case measure => simp [intOf]; omega
    · obtain rfl : m = j := by omega
      have htk : l.take m = l := by rw [← HM.out, List.take_length]
      rw [htk] at HN1 ⊢
      clear hlt hj
      go_wp2_with fail
      go_ret
      exact ⟨A1, c1, rfl, HN1.out, HK.out⟩
theorem refVars_any (l : List Tm) (vs : List TV) (A : Option Addr) (m c : Nat) (w : World) (hT : Trs w (fun _ => True) l vs) (hR : Rd w A (vs.flatMap tvE)) (hm : l.length = m) (hsz : tSizes l ≤ 1000000) (hrt : ∀ a ∈ l, tRight a = true) :
    Calls Tryd.prog 66 #[.slice A m c] w fun e w' => ∃ A' c', e = .returned (.slice A' (tVars l).length c') ∧ Nums .i64 w' w'.heap.size A' (tVars l) ∧ Keeps w w' [] :=
  refVarsL_any l vs A m c w hT hR hm (by have := tSizes_len l; omega) (Nat.le_trans (tVars_sizes l) hsz) hrt
end Go.Proofs.YtnonfmaehfmigaaDoor

/- Renaming: the document's. Printed by gen_mgren.py b. -/
namespace Go.Proofs.YtnonfmaehfmigaaDoor
open Go.RowKit

theorem TSt.setN {tg : TypeId} {S0 : Nat → Prop} {w wr : World} {L : List Nat} {F : List (Nat × TypeId × Array Value)} {g : Nat} {k n : Int} {s : ByteArray} (st : TSt tg S0 w wr L F g k n s [] [] none 0 0) (n' : Int) : TSt tg S0 w (wr.setCell ⟨g, 1, none⟩ (.int .i64 n')) L F g k n' s [] [] none 0 0 :=
  TSt.start (fun x hx => ⟨(st.fix x hx).1.far (st.fix x hx).2.2 _, (st.fix x hx).2.2⟩) (by have h := st.out.set_ 1 (.int .i64 n'); simpa using h) (st.keep.setCell (.inr st.low.1) _) st.low.1 st.low.2.2 st.sz
/-- The number so far. -/
def curN (kf : Int) (vars : List Int) (n : Int) (i : Nat) : Int := if n ∈ vars.take i then ren kf vars n else n
theorem curN_same {kf : Int} {vars : List Int} {n x : Int} {i : Nat} (hx : vars[i]? = some x) (h : x ≠ n) : curN kf vars n (i + 1) = curN kf vars n i := by
  unfold curN
  have : n ∈ vars.take (i + 1) ↔ n ∈ vars.take i := by
    rw [List.take_add_one, hx, List.mem_append]
    simp [Ne.symm h]
  simp only [this]
theorem curN_here {kf : Int} {vars : List Int} {n : Int} {i : Nat} (hd : vars.Nodup) (hx : vars[i]? = some n) : curN kf vars n (i + 1) = kf + i := by
  unfold curN
  rw [if_pos (by rw [List.take_add_one, hx]; simp)]
  unfold ren
  rw [findI_some (k := i) hx (by simp [hasI]) fun y hy => ?_]
  have : y ≠ n := by
    rintro rfl
    obtain ⟨hi, he⟩ := List.getElem?_eq_some_iff.1 hx
    obtain ⟨q, hq, hqe⟩ := List.getElem_of_mem hy
    rw [List.length_take] at hq
    rw [List.getElem_take] at hqe
    have := (List.getElem_inj hd).1 (hqe.trans he.symm)
    omega
  unfold hasI
  simpa using Ne.symm this
theorem curN_end {kf : Int} {vars : List Int} {n : Int} (h : n ∈ vars) : curN kf vars n vars.length = ren kf vars n := by
  unfold curN
  rw [List.take_length, if_pos h]
set_option maxRecDepth 100000 in
set_option maxHeartbeats 6400000 in
theorem refRename_any (kf : Int) (k0 : 0 ≤ kf) (k9 : kf ≤ 1000000) (VA : Option Addr) (vn vc : Nat) (vars : List Int) (hvl : vars.length = vn) (hvn : vn ≤ 1000000) (hnd : vars.Nodup) (t : Tm) : ∀ (v : TV) (w : World) (S : Nat → Prop), (∀ b, S b → b < w.heap.size) → Tr w S t v → tRight t = true → (∀ x ∈ tV t, x ∈ vars) → Nums .i64 w w.heap.size VA vars →
    Calls Tryd.prog 67 #[.int .i64 kf, .slice VA vn vc, tvV v] w (ApDone S w (tRn (ren kf vars) t)) := by
  induction t using Tm.ind_ with
  | h k n s l ih =>
    intro v w S hSl ht hrt hin hN
    have hw := tWid_of_right hrt
    cases ht with
    | mk _ _ _ _ A c vs hl hR hS hc hz hk =>
    rw [tWid] at hw
    have HT : Hid (Trs w S l vs) := ⟨hl, hk⟩
    have HR := Lib.hid hR
    have HZ := Lib.hid hz.1
    have HSl := Lib.hid hSl
    have HN := Lib.hid hN
    have HRt := Lib.hid hrt
    have HIn := Lib.hid hin
    have HND := Lib.hid hnd
    have HVl := Lib.hid hvl
    have HCall : Hid (∀ a ∈ l, ∀ (v' : TV) w', Keeps w w' [] → Tr w' S a v' → Calls Tryd.prog 67 #[.int .i64 kf, .slice VA vn vc, .agg #[.int .i64 v'.k, .int .i64 v'.n, .string v'.s, .slice v'.A v'.len v'.c]] w' (ApDone S w' (tRn (ren kf vars) a))) := fun a ha v' w' k' ht' => by
      have h0 : k ≠ 0 := by
        rintro rfl
        obtain ⟨e, _, _⟩ := right_var hrt
        obtain ⟨_, _, _, rfl⟩ := Tm.mk.inj e
        cases ha
      exact ih a ha v' w' S (fun b hb => Nat.lt_of_lt_of_le (hSl b hb) k'.size) ht' (right_parts hrt a ha) (fun x hx => hin x (by rw [tV, if_neg h0]; exact mem_tVL.2 ⟨a, ha, hx⟩)) ((hN.keep (w' := w') fun p hp => k'.cell hp (by simp)).more k'.size)
    obtain ⟨m, hm⟩ : ∃ m, l.length = m := ⟨_, rfl⟩
    have HM := Lib.hid hm
    have hmb : m ≤ 1000000 := by rw [← hm]; exact hw.1
    clear hl hR hS hc hz hk ih hw hSl hN hrt hin hnd hvl
    unfold tvV
    simp only [hm]
    clear hm
    by_cases h0 : k = 0
    · have e0 : (k == 0) = true := by simpa using h0
      have HG : Hid (tRn (ren kf vars) (.mk k n s l) = .mk k (ren kf vars n) s (l.map (tRn (ren kf vars)))) := tRn_var _ s l h0
      have HNi : Hid (n ∈ vars) := HIn.out n (by rw [tV, if_pos h0]; simp)
      clear h0
      have hbx : Blk (w.alloc (.cells #[.int .i64 k, .int .i64 n, .string s, .slice A m c] 24)) w.heap.size 24 #[.int .i64 k, .int .i64 n, .string s, .slice A m c] := Blk.new _ _ _
      have hrb : Blk ((w.alloc (.cells #[.int .i64 k, .int .i64 n, .string s, .slice A m c] 24)).alloc (.cells #[.int .i64 0, .int .i64 0, .string ⟨#[]⟩, .slice none 0 0] 24)) (w.heap.size + 1) 24 #[.int .i64 0, .int .i64 0, .string ⟨#[]⟩, .slice none 0 0] := Blk.newAt _ _ (by simp)
      have hK : Keeps w (((w.alloc (.cells #[.int .i64 k, .int .i64 n, .string s, .slice A m c] 24)).alloc (.cells #[.int .i64 0, .int .i64 0, .string ⟨#[]⟩, .slice none 0 0] 24)).alloc (.cells #[.int .i64 k, .int .i64 n, .string s, .slice none 0 0] 24)) [] := (((Keeps.refl w []).alloc _).alloc _).alloc _
      obtain ⟨g, hg⟩ : ∃ g, w.heap.size + 1 + 1 = g := ⟨_, rfl⟩
      have hst : TSt 24 (fun b => S b ∨ w.heap.size ≤ b) w (((w.alloc (.cells #[.int .i64 k, .int .i64 n, .string s, .slice A m c] 24)).alloc (.cells #[.int .i64 0, .int .i64 0, .string ⟨#[]⟩, .slice none 0 0] 24)).alloc (.cells #[.int .i64 k, .int .i64 n, .string s, .slice none 0 0] 24)) [] [(w.heap.size, 24, #[.int .i64 k, .int .i64 n, .string s, .slice A m c]), (w.heap.size + 1, 24, #[.int .i64 0, .int .i64 0, .string ⟨#[]⟩, .slice none 0 0])] g k n s [] [] none 0 0 :=
        TSt.start (by
          intro x hx
          simp only [List.mem_cons, List.not_mem_nil, or_false] at hx
          rcases hx with rfl | rfl
          · exact ⟨(hbx.alloc _).alloc _, by simp; omega⟩
          · exact ⟨hrb.alloc _, by simp; omega⟩) (Blk.newAt _ _ (by simp; omega)) hK (by omega) (fun b h => .inr h) HZ.out
      have HST := Lib.hid hst
      clear hbx hrb hK hst
      have HK0 : Hid (Keeps w (((w.alloc (.cells #[.int .i64 k, .int .i64 n, .string s, .slice A m c] 24)).alloc (.cells #[.int .i64 0, .int .i64 0, .string ⟨#[]⟩, .slice none 0 0] 24)).alloc (.cells #[.int .i64 k, .int .i64 n, .string s, .slice none 0 0] 24)) []) := (((Keeps.refl w []).alloc _).alloc _).alloc _
      go_enter Tryd.func67, Tryd.ntmps67
      go_wp2_with fail
      go_loopw [8] (fun x8 wr => ∃ i : Nat, i ≤ vn ∧ x8 = .int .i64 i ∧ TSt 24 (fun b => S b ∨ w.heap.size ≤ b) w wr [] [(w.heap.size, 24, #[.int .i64 k, .int .i64 n, .string s, .slice A m c]), (w.heap.size + 1, 24, #[.int .i64 0, .int .i64 0, .string ⟨#[]⟩, .slice none 0 0])] g k (curN kf vars n i) s [] [] none 0 0) (fun x8 _ => vn - (intOf x8).toNat)
      case atStart => exact ⟨0, Nat.zero_le _, rfl, by have h1 := HST.out; unfold curN; simpa using h1⟩
      case round =>
        clear HST HK0
        obtain ⟨i, hi, rfl, st⟩ := hrel
        have HS := Lib.hid st
        have e1 := (st.fix _ (List.mem_cons_self ..)).1.cell 0
        have e2 := (st.fix _ (List.mem_cons_self ..)).1.cell 1
        have e3 := (st.fix _ (List.mem_cons_self ..)).1.cell 3
        have i0 : (0 : Int) ≤ (i : Int) := Int.natCast_nonneg _
        by_cases hlt : i < vn
        · obtain ⟨b, off, x, rfl, hb, hc, hx⟩ := HN.out i (by rw [HVl.out]; exact hlt)
          have hcr := (st.keep.cell0 hb).trans hc
          have HX := Lib.hid hx
          have i1 : (i : Int) < (vn : Int) := by omega
          have i2 : wrap64 (kf + (i : Int)) = kf + (i : Int) := by unfold wrap64; omega
          have i3 : IntKind.i64.wrap (kf + (i : Int)) = kf + (i : Int) := by simp only [IntKind.wrap_i64]; omega
          clear hx hc st hb
          by_cases hxn : x = n
          · have hq : (x == n) = true := by simpa using hxn
            have HX2 : Hid (vars[i]? = some n) := by rw [← hxn]; exact HX
            have HC2 : Hid (curN kf vars n (i + 1) = kf + (i : Int)) := curN_here HND.out HX2.out
            have o1 := HS.out.out.frozen 1
            have o2 := HS.out.out.cell 1
            have HS2 := Lib.hid ((HS.out.setN (kf + (i : Int))).keep0 (Keeps.refl _ []).drew)
            clear hxn
            go_upto_region 5 with fail
            refine wp_region_tx (fun W' => W'.cell? ⟨b, off + i, none⟩ = some (.int .i64 x) ∧ W'.cell? ⟨w.heap.size, 1, none⟩ = some (.int .i64 n)) [(0, true), (1, true), (2, true), (3, true), (4, true), (5, true), (6, false)] (by kernel_rfl) (by kernel_rfl) ⟨hcr, e2⟩ (fun hHeld => ?_)
            (repeat (first | (refine wpTx_take (v := ?_) rfl (by assumption) ?_ (by rfl) ?_; rotate_left; (focus (intro w' hSw; (try dsimp only at hSw); go_simp; (try with_reducible rfl); done)); simp only [Act.put, List.setIfInBounds_toArray, List.set_cons_zero, List.set_cons_succ]) | (refine wpTx_skip rfl (by assumption) (by rfl) ?_; simp only [Act.put, List.setIfInBounds_toArray, List.set_cons_zero, List.set_cons_succ])))
            refine wpTx_last rfl (fun K hK => ?_)
            go_simp
            refine hK.out _ _ (NoPanic.normal ?_); clear hK K; (try simp only [Act.put, List.setIfInBounds_toArray, List.set_cons_zero, List.set_cons_succ])
            clear e1 e2 e3 hcr
            go_wp2_with fail
            go_roundw
            case rel => exact ⟨i + 1, by omega, by go_num, by rw [HC2.out]; exact HS2.out⟩
            case measure => simp [intOf]; omega
          · have hq : (x == n) = false := by simpa using hxn
            have HC2 : Hid (curN kf vars n (i + 1) = curN kf vars n i) := curN_same HX.out hxn
            clear hxn
            go_upto_region 5 with fail
            refine wp_region_tx (fun W' => W'.cell? ⟨b, off + i, none⟩ = some (.int .i64 x) ∧ W'.cell? ⟨w.heap.size, 1, none⟩ = some (.int .i64 n)) [(0, true), (1, true), (2, true), (3, true), (4, true), (5, true), (6, false)] (by kernel_rfl) (by kernel_rfl) ⟨hcr, e2⟩ (fun hHeld => ?_)
            (repeat (first | (refine wpTx_take (v := ?_) rfl (by assumption) ?_ (by rfl) ?_; rotate_left; (focus (intro w' hSw; (try dsimp only at hSw); go_simp; (try with_reducible rfl); done)); simp only [Act.put, List.setIfInBounds_toArray, List.set_cons_zero, List.set_cons_succ]) | (refine wpTx_skip rfl (by assumption) (by rfl) ?_; simp only [Act.put, List.setIfInBounds_toArray, List.set_cons_zero, List.set_cons_succ])))
            refine wpTx_last rfl (fun K hK => ?_)
            go_simp
            refine hK.out _ _ (NoPanic.normal ?_); clear hK K; (try simp only [Act.put, List.setIfInBounds_toArray, List.set_cons_zero, List.set_cons_succ])
            clear e1 e2 e3 hcr
            go_wp2_with fail
            go_roundw
            case rel => exact ⟨i + 1, by omega, by go_num, by rw [HC2.out]; exact HS.out.keep0 (Keeps.refl _ []).drew⟩
            case measure => simp [intOf]; omega
        · obtain rfl : vn = i := by omega
          have HST : Hid (TSt 24 (fun b => S b ∨ w.heap.size ≤ b) w wr [] [(w.heap.size, 24, #[.int .i64 k, .int .i64 n, .string s, .slice A m c]), (w.heap.size + 1, 24, #[.int .i64 0, .int .i64 0, .string ⟨#[]⟩, .slice none 0 0])] g k (ren kf vars n) s [] [] none 0 0) := by
            have h1 := HS.out
            have h2 := curN_end (kf := kf) HNi.out
            rw [HVl.out] at h2
            rw [h2] at h1
            exact h1
          clear hlt hi st HS
          go_wp2_with fail
          clear e1 e2 e3
          go_loopw [9] (fun i wr => ∃ j : Nat, j ≤ m ∧ i = .int .i64 j ∧ ∃ A2 c2 us, TSt 24 (fun b => S b ∨ w.heap.size ≤ b) w wr [] [(w.heap.size, 24, #[.int .i64 k, .int .i64 n, .string s, .slice A m c]), (w.heap.size + 1, 24, #[.int .i64 0, .int .i64 0, .string ⟨#[]⟩, .slice none 0 0])] g k (ren kf vars n) s ((l.take j).map (tRn (ren kf vars))) us A2 j c2) (fun i _ => m - (intOf i).toNat)
          case atStart => exact ⟨0, Nat.zero_le _, rfl, none, 0, [], HST.out⟩
          case round =>
            obtain ⟨j, hj, rfl, A2, c2, us, st⟩ := hrel
            have HS := Lib.hid st
            have e1 := (st.fix _ (List.mem_cons_self ..)).1.cell 3
            clear st HST
            by_cases hlt : j < m
            · obtain ⟨a, hx⟩ := at_of HM.out hlt
              have HX := Lib.hid hx
              have ha := List.mem_of_getElem? hx
              obtain ⟨v', b, off, _, htr, rfl, hb, p0, p1, p2, p3⟩ := HT.out.get HR.out hx
              have HC : Hid (∀ w', Keeps w w' [] → Calls Tryd.prog 67 #[.int .i64 kf, .slice VA vn vc, .agg #[.int .i64 v'.k, .int .i64 v'.n, .string v'.s, .slice v'.A v'.len v'.c]] w' (ApDone S w' (tRn (ren kf vars) a))) := fun w' kk => HCall.out a ha v' w' kk (htr.keep kk)
              clear htr hx ha
              have HW : Hid (∀ W', Keeps wr W' (ownL (.slice A2 j c2)) → W'.frozen? ⟨g, 3, none⟩ = false ∧ W'.cell? ⟨g, 3, none⟩ = some (.slice A2 j c2) ∧ W'.cell? ⟨w.heap.size, 3, none⟩ = some (.slice (some ⟨b, off, none⟩) m c) ∧ W'.cell? ⟨b, off + j * 4, none⟩ = some (.int .i64 v'.k) ∧ W'.cell? ⟨b, off + j * 4 + 1, none⟩ = some (.int .i64 v'.n) ∧ W'.cell? ⟨b, off + j * 4 + 2, none⟩ = some (.string v'.s) ∧ W'.cell? ⟨b, off + j * 4 + 3, none⟩ = some (.slice v'.A v'.len v'.c)) := fun W' kk =>
                have kc : ∀ i x, w.cell? ⟨b, i, none⟩ = some x → W'.cell? ⟨b, i, none⟩ = some x := fun i x hx => ((kk.cell (p := ⟨b, i, none⟩) (Nat.lt_of_lt_of_le hb HS.out.keep.size) (own_out HS.out.row hb)).trans (HS.out.keep.cell0 hb)).trans hx
                ⟨(HS.out.out.keep kk HS.out.low.2.1).frozen 3, (HS.out.out.keep kk HS.out.low.2.1).cell 3, ((HS.out.fix _ (List.mem_cons_self ..)).1.keep kk (HS.out.fix _ (List.mem_cons_self ..)).2.1).cell 3, kc _ _ p0, kc _ _ p1, kc _ _ p2, kc _ _ p3⟩
              obtain ⟨q0, q1, q2, q3, q4, q5, q6⟩ := HW.out wr (Keeps.refl _ _)
              clear e1 p0 p1 p2 p3
              have b0 : (0 : Int) ≤ (j : Int) := Int.natCast_nonneg _
              have b1 : (j : Int) < (m : Int) := by omega
              go_wp2_with fail
              have HS1 := HS
              refine wp_region_tx (fun W' => W'.frozen? ⟨g, 3, none⟩ = false ∧ W'.cell? ⟨g, 3, none⟩ = some (.slice A2 j c2) ∧ W'.cell? ⟨w.heap.size, 3, none⟩ = some (.slice (some ⟨b, off, none⟩) m c) ∧ W'.cell? ⟨b, off + j * 4, none⟩ = some (.int .i64 v'.k) ∧ W'.cell? ⟨b, off + j * 4 + 1, none⟩ = some (.int .i64 v'.n) ∧ W'.cell? ⟨b, off + j * 4 + 2, none⟩ = some (.string v'.s) ∧ W'.cell? ⟨b, off + j * 4 + 3, none⟩ = some (.slice v'.A v'.len v'.c)) [(0, true), (1, true), (2, true), (3, true), (4, true), (5, true), (6, true), (7, true), (8, true), (9, false), (10, false), (11, false), (12, true), (13, false)] (by kernel_rfl) (by kernel_rfl) (HW.out _ ((Keeps.refl _ _).drew)) (fun hHeld => ?_)
              (repeat (first | (refine wpTx_take (v := ?_) rfl (by assumption) ?_ (by rfl) ?_; rotate_left; (focus (intro w' hSw; (try dsimp only at hSw); go_simp; (try with_reducible rfl); done)); simp only [Act.put, List.setIfInBounds_toArray, List.set_cons_zero, List.set_cons_succ]) | (refine wpTx_skip rfl (by assumption) (by rfl) ?_; simp only [Act.put, List.setIfInBounds_toArray, List.set_cons_zero, List.set_cons_succ])))
              refine wpTx_go rfl (fun K hK => ?_)
              go_simp
              refine (HC.out _ (HS1.out.keep.drew)).mono ?_
              rintro e w3 ⟨u, rfl, hu, k3⟩
              have HU : Hid (Tr w3 (fun b => S b ∨ wr.heap.size ≤ b) ((tRn (ren kf vars)) a) u) := hu
              unfold tvV
              clear hu
              refine hK.out _ _ ?_ ?_
              · exact HW.out _ (((Keeps.refl _ []).drew.trans k3).to_ _)
              (clear hHeld; intro hHeld; clear hK K; (try simp only [Act.put, List.setIfInBounds_toArray, List.set_cons_zero, List.set_cons_succ]))
              refine wpTx_go rfl (fun K hK => ?_)
              go_simp
              refine hK.out _ _ ?_ ?_
              · exact HW.out _ ((((Keeps.refl _ []).drew.trans k3).alloc _).to_ _)
              (clear hHeld; intro hHeld; clear hK K; (try simp only [Act.put, List.setIfInBounds_toArray, List.set_cons_zero, List.set_cons_succ]))
              refine wpTx_go rfl (fun K hK => ?_)
              refine step_app _ el_rterm (by rfl) _ _ (by rfl) w.heap.size A2 j c2 (us.flatMap tvE) (by rfl) (own_keep0 HS1.out.row (((Keeps.refl _ []).drew.trans k3).alloc _)) (some ⟨w3.heap.size, 0, none⟩) 1 1 (tvE u) (by rfl) (Rd.one w3 _ (tvE u)) rfl (by simp) (by simp [tvE, Value.oneCell']) (by omega) (by simp; have := HS1.out.keep.size; have := k3.size; simp at this; omega) ?_
              intro A' c' w2 hown hgrow hat
              refine hK.out _ _ ?_ ?_
              · exact HW.out _ (((Keeps.refl _ []).drew.trans k3).alloc _ |>.rest (Keeps.ofGrown hgrow))
              (clear hHeld; intro hHeld; clear hK K; (try simp only [Act.put, List.setIfInBounds_toArray, List.set_cons_zero, List.set_cons_succ]))
              (repeat (first | (refine wpTx_take (v := ?_) rfl (by assumption) ?_ (by rfl) ?_; rotate_left; (focus (intro w' hSw; (try dsimp only at hSw); go_simp; (try with_reducible rfl); done)); simp only [Act.put, List.setIfInBounds_toArray, List.set_cons_zero, List.set_cons_succ]) | (refine wpTx_skip rfl (by assumption) (by rfl) ?_; simp only [Act.put, List.setIfInBounds_toArray, List.set_cons_zero, List.set_cons_succ])))
              refine wpTx_last rfl (fun K hK => ?_)
              go_simp
              refine hK.out _ _ (NoPanic.normal ?_); clear hK K; (try simp only [Act.put, List.setIfInBounds_toArray, List.set_cons_zero, List.set_cons_succ])
              go_wp2_with fail
              go_roundw
              case rel =>
                have hs := HS1.out.step (((Keeps.refl _ []).drew.trans k3).alloc _) (HS1.out.part HSl.out (by simp) ((HU.out).keep ((Keeps.refl _ []).alloc _))) hown hgrow hat
                rw [show (l.take j).map (tRn (ren kf vars)) ++ [(tRn (ren kf vars)) a] = (l.take (j + 1)).map (tRn (ren kf vars)) by rw [List.take_add_one, HX.out, List.map_append]; rfl] at hs
                exact ⟨j + 1, by omega, by go_num, A', c', _, hs⟩
              case measure => simp [intOf]; omega
            · obtain rfl : m = j := by omega
              have hd := HS.out.done (by omega)
              rw [show (l.take m).map (tRn (ren kf vars)) = l.map (tRn (ren kf vars)) by rw [← HM.out, List.take_length]] at hd
              have hr := (HS.out.fix (w.heap.size + 1, 24, #[.int .i64 0, .int .i64 0, .string ⟨#[]⟩, .slice none 0 0]) (by simp)).1
              have d0 := HS.out.out.cell 0
              have d1 := HS.out.out.cell 1
              have d2 := HS.out.out.cell 2
              have d3 := HS.out.out.cell 3
              have r0 := hr.cell 0
              have r1 := hr.cell 1
              have r2 := hr.cell 2
              have r3 := hr.cell 3
              have f0 := hr.frozen 0
              have f1 := hr.frozen 1
              have f2 := hr.frozen 2
              have f3 := hr.frozen 3
              have HD := Lib.hid ((hd.mono (S' := fun b => (S b ∨ w.heap.size ≤ b) ∧ b ≠ w.heap.size + 1) fun b hb => ⟨hb.1, hb.2.2 (w.heap.size + 1, 24, #[.int .i64 0, .int .i64 0, .string ⟨#[]⟩, .slice none 0 0]) (by simp)⟩).end4 (.int .i64 k) (.int .i64 (ren kf vars n)) (.string s) (.slice A2 m c2) HS.out.keep (by omega))
              clear hd hr hlt hj
              go_wp2_with fail
              exact bodyPost_ret (v := .agg #[.int .i64 k, .int .i64 (ren kf vars n), .string s, .slice A2 m c2]) (by simp [results, Tryd.results67, go_sem, *]) rfl (by rw [HG.out]; exact HD.out)
    · have e0 : (k == 0) = false := by simpa using h0
      have HG : Hid (tRn (ren kf vars) (.mk k n s l) = .mk k n s (l.map (tRn (ren kf vars)))) := tRn_node _ s l h0
      have hbx : Blk (w.alloc (.cells #[.int .i64 k, .int .i64 n, .string s, .slice A m c] 24)) w.heap.size 24 #[.int .i64 k, .int .i64 n, .string s, .slice A m c] := Blk.new _ _ _
      have hrb : Blk ((w.alloc (.cells #[.int .i64 k, .int .i64 n, .string s, .slice A m c] 24)).alloc (.cells #[.int .i64 0, .int .i64 0, .string ⟨#[]⟩, .slice none 0 0] 24)) (w.heap.size + 1) 24 #[.int .i64 0, .int .i64 0, .string ⟨#[]⟩, .slice none 0 0] := Blk.newAt _ _ (by simp)
      have hK : Keeps w (((w.alloc (.cells #[.int .i64 k, .int .i64 n, .string s, .slice A m c] 24)).alloc (.cells #[.int .i64 0, .int .i64 0, .string ⟨#[]⟩, .slice none 0 0] 24)).alloc (.cells #[.int .i64 k, .int .i64 n, .string s, .slice none 0 0] 24)) [] := (((Keeps.refl w []).alloc _).alloc _).alloc _
      obtain ⟨g, hg⟩ : ∃ g, w.heap.size + 1 + 1 = g := ⟨_, rfl⟩
      have hst : TSt 24 (fun b => S b ∨ w.heap.size ≤ b) w (((w.alloc (.cells #[.int .i64 k, .int .i64 n, .string s, .slice A m c] 24)).alloc (.cells #[.int .i64 0, .int .i64 0, .string ⟨#[]⟩, .slice none 0 0] 24)).alloc (.cells #[.int .i64 k, .int .i64 n, .string s, .slice none 0 0] 24)) [] [(w.heap.size, 24, #[.int .i64 k, .int .i64 n, .string s, .slice A m c]), (w.heap.size + 1, 24, #[.int .i64 0, .int .i64 0, .string ⟨#[]⟩, .slice none 0 0])] g k n s [] [] none 0 0 :=
        TSt.start (by
          intro x hx
          simp only [List.mem_cons, List.not_mem_nil, or_false] at hx
          rcases hx with rfl | rfl
          · exact ⟨(hbx.alloc _).alloc _, by simp; omega⟩
          · exact ⟨hrb.alloc _, by simp; omega⟩) (Blk.newAt _ _ (by simp; omega)) hK (by omega) (fun b h => .inr h) HZ.out
      have HST := Lib.hid hst
      clear hbx hrb hK hst
      have e1 := (HST.out.fix _ (List.mem_cons_self ..)).1.cell 0
      go_enter Tryd.func67, Tryd.ntmps67
      go_wp2_with fail
      go_loopw [8] (fun x8 wr => x8 = .int .i64 0 ∧ TSt 24 (fun b => S b ∨ w.heap.size ≤ b) w wr [] [(w.heap.size, 24, #[.int .i64 k, .int .i64 n, .string s, .slice A m c]), (w.heap.size + 1, 24, #[.int .i64 0, .int .i64 0, .string ⟨#[]⟩, .slice none 0 0])] g k n s [] [] none 0 0) (fun _ _ => 0)
      case atStart => exact ⟨rfl, HST.out⟩
      case round =>
        clear HST e1
        obtain ⟨rfl, st⟩ := hrel
        have HST := Lib.hid st
        have e1 := (st.fix _ (List.mem_cons_self ..)).1.cell 0
        have e3 := (st.fix _ (List.mem_cons_self ..)).1.cell 3
        clear st
        by_cases hv0 : 0 < vn
        · have i1 : (0 : Int) < (vn : Int) := by omega
          go_wp2_with fail
          clear e1 e3 i1 hv0
          go_loopw [9] (fun i wr => ∃ j : Nat, j ≤ m ∧ i = .int .i64 j ∧ ∃ A2 c2 us, TSt 24 (fun b => S b ∨ w.heap.size ≤ b) w wr [] [(w.heap.size, 24, #[.int .i64 k, .int .i64 n, .string s, .slice A m c]), (w.heap.size + 1, 24, #[.int .i64 0, .int .i64 0, .string ⟨#[]⟩, .slice none 0 0])] g k n s ((l.take j).map (tRn (ren kf vars))) us A2 j c2) (fun i _ => m - (intOf i).toNat)
          case atStart => exact ⟨0, Nat.zero_le _, rfl, none, 0, [], HST.out⟩
          case round =>
            obtain ⟨j, hj, rfl, A2, c2, us, st⟩ := hrel
            have HS := Lib.hid st
            have e1 := (st.fix _ (List.mem_cons_self ..)).1.cell 3
            clear st HST
            by_cases hlt : j < m
            · obtain ⟨a, hx⟩ := at_of HM.out hlt
              have HX := Lib.hid hx
              have ha := List.mem_of_getElem? hx
              obtain ⟨v', b, off, _, htr, rfl, hb, p0, p1, p2, p3⟩ := HT.out.get HR.out hx
              have HC : Hid (∀ w', Keeps w w' [] → Calls Tryd.prog 67 #[.int .i64 kf, .slice VA vn vc, .agg #[.int .i64 v'.k, .int .i64 v'.n, .string v'.s, .slice v'.A v'.len v'.c]] w' (ApDone S w' (tRn (ren kf vars) a))) := fun w' kk => HCall.out a ha v' w' kk (htr.keep kk)
              clear htr hx ha
              have HW : Hid (∀ W', Keeps wr W' (ownL (.slice A2 j c2)) → W'.frozen? ⟨g, 3, none⟩ = false ∧ W'.cell? ⟨g, 3, none⟩ = some (.slice A2 j c2) ∧ W'.cell? ⟨w.heap.size, 3, none⟩ = some (.slice (some ⟨b, off, none⟩) m c) ∧ W'.cell? ⟨b, off + j * 4, none⟩ = some (.int .i64 v'.k) ∧ W'.cell? ⟨b, off + j * 4 + 1, none⟩ = some (.int .i64 v'.n) ∧ W'.cell? ⟨b, off + j * 4 + 2, none⟩ = some (.string v'.s) ∧ W'.cell? ⟨b, off + j * 4 + 3, none⟩ = some (.slice v'.A v'.len v'.c)) := fun W' kk =>
                have kc : ∀ i x, w.cell? ⟨b, i, none⟩ = some x → W'.cell? ⟨b, i, none⟩ = some x := fun i x hx => ((kk.cell (p := ⟨b, i, none⟩) (Nat.lt_of_lt_of_le hb HS.out.keep.size) (own_out HS.out.row hb)).trans (HS.out.keep.cell0 hb)).trans hx
                ⟨(HS.out.out.keep kk HS.out.low.2.1).frozen 3, (HS.out.out.keep kk HS.out.low.2.1).cell 3, ((HS.out.fix _ (List.mem_cons_self ..)).1.keep kk (HS.out.fix _ (List.mem_cons_self ..)).2.1).cell 3, kc _ _ p0, kc _ _ p1, kc _ _ p2, kc _ _ p3⟩
              obtain ⟨q0, q1, q2, q3, q4, q5, q6⟩ := HW.out wr (Keeps.refl _ _)
              clear e1 p0 p1 p2 p3
              have b0 : (0 : Int) ≤ (j : Int) := Int.natCast_nonneg _
              have b1 : (j : Int) < (m : Int) := by omega
              go_wp2_with fail
              have HS1 := HS
              refine wp_region_tx (fun W' => W'.frozen? ⟨g, 3, none⟩ = false ∧ W'.cell? ⟨g, 3, none⟩ = some (.slice A2 j c2) ∧ W'.cell? ⟨w.heap.size, 3, none⟩ = some (.slice (some ⟨b, off, none⟩) m c) ∧ W'.cell? ⟨b, off + j * 4, none⟩ = some (.int .i64 v'.k) ∧ W'.cell? ⟨b, off + j * 4 + 1, none⟩ = some (.int .i64 v'.n) ∧ W'.cell? ⟨b, off + j * 4 + 2, none⟩ = some (.string v'.s) ∧ W'.cell? ⟨b, off + j * 4 + 3, none⟩ = some (.slice v'.A v'.len v'.c)) [(0, true), (1, true), (2, true), (3, true), (4, true), (5, true), (6, true), (7, true), (8, true), (9, false), (10, false), (11, false), (12, true), (13, false)] (by kernel_rfl) (by kernel_rfl) (HW.out _ ((Keeps.refl _ _).drew)) (fun hHeld => ?_)
              (repeat (first | (refine wpTx_take (v := ?_) rfl (by assumption) ?_ (by rfl) ?_; rotate_left; (focus (intro w' hSw; (try dsimp only at hSw); go_simp; (try with_reducible rfl); done)); simp only [Act.put, List.setIfInBounds_toArray, List.set_cons_zero, List.set_cons_succ]) | (refine wpTx_skip rfl (by assumption) (by rfl) ?_; simp only [Act.put, List.setIfInBounds_toArray, List.set_cons_zero, List.set_cons_succ])))
              refine wpTx_go rfl (fun K hK => ?_)
              go_simp
              refine (HC.out _ (HS1.out.keep.drew)).mono ?_
              rintro e w3 ⟨u, rfl, hu, k3⟩
              have HU : Hid (Tr w3 (fun b => S b ∨ wr.heap.size ≤ b) ((tRn (ren kf vars)) a) u) := hu
              unfold tvV
              clear hu
              refine hK.out _ _ ?_ ?_
              · exact HW.out _ (((Keeps.refl _ []).drew.trans k3).to_ _)
              (clear hHeld; intro hHeld; clear hK K; (try simp only [Act.put, List.setIfInBounds_toArray, List.set_cons_zero, List.set_cons_succ]))
              refine wpTx_go rfl (fun K hK => ?_)
              go_simp
              refine hK.out _ _ ?_ ?_
              · exact HW.out _ ((((Keeps.refl _ []).drew.trans k3).alloc _).to_ _)
              (clear hHeld; intro hHeld; clear hK K; (try simp only [Act.put, List.setIfInBounds_toArray, List.set_cons_zero, List.set_cons_succ]))
              refine wpTx_go rfl (fun K hK => ?_)
              refine step_app _ el_rterm (by rfl) _ _ (by rfl) w.heap.size A2 j c2 (us.flatMap tvE) (by rfl) (own_keep0 HS1.out.row (((Keeps.refl _ []).drew.trans k3).alloc _)) (some ⟨w3.heap.size, 0, none⟩) 1 1 (tvE u) (by rfl) (Rd.one w3 _ (tvE u)) rfl (by simp) (by simp [tvE, Value.oneCell']) (by omega) (by simp; have := HS1.out.keep.size; have := k3.size; simp at this; omega) ?_
              intro A' c' w2 hown hgrow hat
              refine hK.out _ _ ?_ ?_
              · exact HW.out _ (((Keeps.refl _ []).drew.trans k3).alloc _ |>.rest (Keeps.ofGrown hgrow))
              (clear hHeld; intro hHeld; clear hK K; (try simp only [Act.put, List.setIfInBounds_toArray, List.set_cons_zero, List.set_cons_succ]))
              (repeat (first | (refine wpTx_take (v := ?_) rfl (by assumption) ?_ (by rfl) ?_; rotate_left; (focus (intro w' hSw; (try dsimp only at hSw); go_simp; (try with_reducible rfl); done)); simp only [Act.put, List.setIfInBounds_toArray, List.set_cons_zero, List.set_cons_succ]) | (refine wpTx_skip rfl (by assumption) (by rfl) ?_; simp only [Act.put, List.setIfInBounds_toArray, List.set_cons_zero, List.set_cons_succ])))
              refine wpTx_last rfl (fun K hK => ?_)
              go_simp
              refine hK.out _ _ (NoPanic.normal ?_); clear hK K; (try simp only [Act.put, List.setIfInBounds_toArray, List.set_cons_zero, List.set_cons_succ])
              go_wp2_with fail
              go_roundw
              case rel =>
                have hs := HS1.out.step (((Keeps.refl _ []).drew.trans k3).alloc _) (HS1.out.part HSl.out (by simp) ((HU.out).keep ((Keeps.refl _ []).alloc _))) hown hgrow hat
                rw [show (l.take j).map (tRn (ren kf vars)) ++ [(tRn (ren kf vars)) a] = (l.take (j + 1)).map (tRn (ren kf vars)) by rw [List.take_add_one, HX.out, List.map_append]; rfl] at hs
                exact ⟨j + 1, by omega, by go_num, A', c', _, hs⟩
              case measure => simp [intOf]; omega
            · obtain rfl : m = j := by omega
              have hd := HS.out.done (by omega)
              rw [show (l.take m).map (tRn (ren kf vars)) = l.map (tRn (ren kf vars)) by rw [← HM.out, List.take_length]] at hd
              have hr := (HS.out.fix (w.heap.size + 1, 24, #[.int .i64 0, .int .i64 0, .string ⟨#[]⟩, .slice none 0 0]) (by simp)).1
              have d0 := HS.out.out.cell 0
              have d1 := HS.out.out.cell 1
              have d2 := HS.out.out.cell 2
              have d3 := HS.out.out.cell 3
              have r0 := hr.cell 0
              have r1 := hr.cell 1
              have r2 := hr.cell 2
              have r3 := hr.cell 3
              have f0 := hr.frozen 0
              have f1 := hr.frozen 1
              have f2 := hr.frozen 2
              have f3 := hr.frozen 3
              have HD := Lib.hid ((hd.mono (S' := fun b => (S b ∨ w.heap.size ≤ b) ∧ b ≠ w.heap.size + 1) fun b hb => ⟨hb.1, hb.2.2 (w.heap.size + 1, 24, #[.int .i64 0, .int .i64 0, .string ⟨#[]⟩, .slice none 0 0]) (by simp)⟩).end4 (.int .i64 k) (.int .i64 n) (.string s) (.slice A2 m c2) HS.out.keep (by omega))
              clear hd hr hlt hj
              go_wp2_with fail
              exact bodyPost_ret (v := .agg #[.int .i64 k, .int .i64 n, .string s, .slice A2 m c2]) (by simp [results, Tryd.results67, go_sem, *]) rfl (by rw [HG.out]; exact HD.out)
        · have i1 : ¬ (0 : Int) < (vn : Int) := by omega
          go_wp2_with fail
          clear e1 e3 i1 hv0
          go_loopw [9] (fun i wr => ∃ j : Nat, j ≤ m ∧ i = .int .i64 j ∧ ∃ A2 c2 us, TSt 24 (fun b => S b ∨ w.heap.size ≤ b) w wr [] [(w.heap.size, 24, #[.int .i64 k, .int .i64 n, .string s, .slice A m c]), (w.heap.size + 1, 24, #[.int .i64 0, .int .i64 0, .string ⟨#[]⟩, .slice none 0 0])] g k n s ((l.take j).map (tRn (ren kf vars))) us A2 j c2) (fun i _ => m - (intOf i).toNat)
          case atStart => exact ⟨0, Nat.zero_le _, rfl, none, 0, [], HST.out⟩
          case round =>
            obtain ⟨j, hj, rfl, A2, c2, us, st⟩ := hrel
            have HS := Lib.hid st
            have e1 := (st.fix _ (List.mem_cons_self ..)).1.cell 3
            clear st HST
            by_cases hlt : j < m
            · obtain ⟨a, hx⟩ := at_of HM.out hlt
              have HX := Lib.hid hx
              have ha := List.mem_of_getElem? hx
              obtain ⟨v', b, off, _, htr, rfl, hb, p0, p1, p2, p3⟩ := HT.out.get HR.out hx
              have HC : Hid (∀ w', Keeps w w' [] → Calls Tryd.prog 67 #[.int .i64 kf, .slice VA vn vc, .agg #[.int .i64 v'.k, .int .i64 v'.n, .string v'.s, .slice v'.A v'.len v'.c]] w' (ApDone S w' (tRn (ren kf vars) a))) := fun w' kk => HCall.out a ha v' w' kk (htr.keep kk)
              clear htr hx ha
              have HW : Hid (∀ W', Keeps wr W' (ownL (.slice A2 j c2)) → W'.frozen? ⟨g, 3, none⟩ = false ∧ W'.cell? ⟨g, 3, none⟩ = some (.slice A2 j c2) ∧ W'.cell? ⟨w.heap.size, 3, none⟩ = some (.slice (some ⟨b, off, none⟩) m c) ∧ W'.cell? ⟨b, off + j * 4, none⟩ = some (.int .i64 v'.k) ∧ W'.cell? ⟨b, off + j * 4 + 1, none⟩ = some (.int .i64 v'.n) ∧ W'.cell? ⟨b, off + j * 4 + 2, none⟩ = some (.string v'.s) ∧ W'.cell? ⟨b, off + j * 4 + 3, none⟩ = some (.slice v'.A v'.len v'.c)) := fun W' kk =>
                have kc : ∀ i x, w.cell? ⟨b, i, none⟩ = some x → W'.cell? ⟨b, i, none⟩ = some x := fun i x hx => ((kk.cell (p := ⟨b, i, none⟩) (Nat.lt_of_lt_of_le hb HS.out.keep.size) (own_out HS.out.row hb)).trans (HS.out.keep.cell0 hb)).trans hx
                ⟨(HS.out.out.keep kk HS.out.low.2.1).frozen 3, (HS.out.out.keep kk HS.out.low.2.1).cell 3, ((HS.out.fix _ (List.mem_cons_self ..)).1.keep kk (HS.out.fix _ (List.mem_cons_self ..)).2.1).cell 3, kc _ _ p0, kc _ _ p1, kc _ _ p2, kc _ _ p3⟩
              obtain ⟨q0, q1, q2, q3, q4, q5, q6⟩ := HW.out wr (Keeps.refl _ _)
              clear e1 p0 p1 p2 p3
              have b0 : (0 : Int) ≤ (j : Int) := Int.natCast_nonneg _
              have b1 : (j : Int) < (m : Int) := by omega
              go_wp2_with fail
              have HS1 := HS
              refine wp_region_tx (fun W' => W'.frozen? ⟨g, 3, none⟩ = false ∧ W'.cell? ⟨g, 3, none⟩ = some (.slice A2 j c2) ∧ W'.cell? ⟨w.heap.size, 3, none⟩ = some (.slice (some ⟨b, off, none⟩) m c) ∧ W'.cell? ⟨b, off + j * 4, none⟩ = some (.int .i64 v'.k) ∧ W'.cell? ⟨b, off + j * 4 + 1, none⟩ = some (.int .i64 v'.n) ∧ W'.cell? ⟨b, off + j * 4 + 2, none⟩ = some (.string v'.s) ∧ W'.cell? ⟨b, off + j * 4 + 3, none⟩ = some (.slice v'.A v'.len v'.c)) [(0, true), (1, true), (2, true), (3, true), (4, true), (5, true), (6, true), (7, true), (8, true), (9, false), (10, false), (11, false), (12, true), (13, false)] (by kernel_rfl) (by kernel_rfl) (HW.out _ ((Keeps.refl _ _).drew)) (fun hHeld => ?_)
              (repeat (first | (refine wpTx_take (v := ?_) rfl (by assumption) ?_ (by rfl) ?_; rotate_left; (focus (intro w' hSw; (try dsimp only at hSw); go_simp; (try with_reducible rfl); done)); simp only [Act.put, List.setIfInBounds_toArray, List.set_cons_zero, List.set_cons_succ]) | (refine wpTx_skip rfl (by assumption) (by rfl) ?_; simp only [Act.put, List.setIfInBounds_toArray, List.set_cons_zero, List.set_cons_succ])))
              refine wpTx_go rfl (fun K hK => ?_)
              go_simp
              refine (HC.out _ (HS1.out.keep.drew)).mono ?_
              rintro e w3 ⟨u, rfl, hu, k3⟩
              have HU : Hid (Tr w3 (fun b => S b ∨ wr.heap.size ≤ b) ((tRn (ren kf vars)) a) u) := hu
              unfold tvV
              clear hu
              refine hK.out _ _ ?_ ?_
              · exact HW.out _ (((Keeps.refl _ []).drew.trans k3).to_ _)
              (clear hHeld; intro hHeld; clear hK K; (try simp only [Act.put, List.setIfInBounds_toArray, List.set_cons_zero, List.set_cons_succ]))
              refine wpTx_go rfl (fun K hK => ?_)
              go_simp
              refine hK.out _ _ ?_ ?_
              · exact HW.out _ ((((Keeps.refl _ []).drew.trans k3).alloc _).to_ _)
              (clear hHeld; intro hHeld; clear hK K; (try simp only [Act.put, List.setIfInBounds_toArray, List.set_cons_zero, List.set_cons_succ]))
              refine wpTx_go rfl (fun K hK => ?_)
              refine step_app _ el_rterm (by rfl) _ _ (by rfl) w.heap.size A2 j c2 (us.flatMap tvE) (by rfl) (own_keep0 HS1.out.row (((Keeps.refl _ []).drew.trans k3).alloc _)) (some ⟨w3.heap.size, 0, none⟩) 1 1 (tvE u) (by rfl) (Rd.one w3 _ (tvE u)) rfl (by simp) (by simp [tvE, Value.oneCell']) (by omega) (by simp; have := HS1.out.keep.size; have := k3.size; simp at this; omega) ?_
              intro A' c' w2 hown hgrow hat
              refine hK.out _ _ ?_ ?_
              · exact HW.out _ (((Keeps.refl _ []).drew.trans k3).alloc _ |>.rest (Keeps.ofGrown hgrow))
              (clear hHeld; intro hHeld; clear hK K; (try simp only [Act.put, List.setIfInBounds_toArray, List.set_cons_zero, List.set_cons_succ]))
              (repeat (first | (refine wpTx_take (v := ?_) rfl (by assumption) ?_ (by rfl) ?_; rotate_left; (focus (intro w' hSw; (try dsimp only at hSw); go_simp; (try with_reducible rfl); done)); simp only [Act.put, List.setIfInBounds_toArray, List.set_cons_zero, List.set_cons_succ]) | (refine wpTx_skip rfl (by assumption) (by rfl) ?_; simp only [Act.put, List.setIfInBounds_toArray, List.set_cons_zero, List.set_cons_succ])))
              refine wpTx_last rfl (fun K hK => ?_)
              go_simp
              refine hK.out _ _ (NoPanic.normal ?_); clear hK K; (try simp only [Act.put, List.setIfInBounds_toArray, List.set_cons_zero, List.set_cons_succ])
              go_wp2_with fail
              go_roundw
              case rel =>
                have hs := HS1.out.step (((Keeps.refl _ []).drew.trans k3).alloc _) (HS1.out.part HSl.out (by simp) ((HU.out).keep ((Keeps.refl _ []).alloc _))) hown hgrow hat
                rw [show (l.take j).map (tRn (ren kf vars)) ++ [(tRn (ren kf vars)) a] = (l.take (j + 1)).map (tRn (ren kf vars)) by rw [List.take_add_one, HX.out, List.map_append]; rfl] at hs
                exact ⟨j + 1, by omega, by go_num, A', c', _, hs⟩
              case measure => simp [intOf]; omega
            · obtain rfl : m = j := by omega
              have hd := HS.out.done (by omega)
              rw [show (l.take m).map (tRn (ren kf vars)) = l.map (tRn (ren kf vars)) by rw [← HM.out, List.take_length]] at hd
              have hr := (HS.out.fix (w.heap.size + 1, 24, #[.int .i64 0, .int .i64 0, .string ⟨#[]⟩, .slice none 0 0]) (by simp)).1
              have d0 := HS.out.out.cell 0
              have d1 := HS.out.out.cell 1
              have d2 := HS.out.out.cell 2
              have d3 := HS.out.out.cell 3
              have r0 := hr.cell 0
              have r1 := hr.cell 1
              have r2 := hr.cell 2
              have r3 := hr.cell 3
              have f0 := hr.frozen 0
              have f1 := hr.frozen 1
              have f2 := hr.frozen 2
              have f3 := hr.frozen 3
              have HD := Lib.hid ((hd.mono (S' := fun b => (S b ∨ w.heap.size ≤ b) ∧ b ≠ w.heap.size + 1) fun b hb => ⟨hb.1, hb.2.2 (w.heap.size + 1, 24, #[.int .i64 0, .int .i64 0, .string ⟨#[]⟩, .slice none 0 0]) (by simp)⟩).end4 (.int .i64 k) (.int .i64 n) (.string s) (.slice A2 m c2) HS.out.keep (by omega))
              clear hd hr hlt hj
              go_wp2_with fail
              exact bodyPost_ret (v := .agg #[.int .i64 k, .int .i64 n, .string s, .slice A2 m c2]) (by simp [results, Tryd.results67, go_sem, *]) rfl (by rw [HG.out]; exact HD.out)

set_option maxRecDepth 100000 in
set_option maxHeartbeats 3200000 in
theorem refRenameL_any (k : Int) (k0 : 0 ≤ k) (k9 : k ≤ 1000000) (l : List Tm) (vs : List TV) (A : Option Addr) (m c : Nat) (w : World) (hT : Trs w (fun _ => True) l vs) (hR : Rd w A (vs.flatMap tvE)) (hm : l.length = m) (hmb : m ≤ 1000000) (hw : ∀ a ∈ l, tRight a = true) (hv : (tVars l).length ≤ 1000000) :
    Calls Tryd.prog 33 #[.int .i64 k, .slice A m c] w (LDone w (rn k l)) := by
  have HVs := Lib.hid (refVarsL_any l vs A m c w hT hR hm (by omega) hv hw)
  have HWd := Lib.hid hw
  have HV := Lib.hid hv
  have HT0 := Lib.hid hT
  have HR0 := Lib.hid hR
  have HM := Lib.hid hm
  have HRn : Hid (rn k l = l.map (tRn (ren k (tVars l)))) := rfl
  rw [HRn.out]
  clear hw hv hT hR hm HRn
  go_enter Tryd.func33, Tryd.ntmps33
  go_wp2_with fail
  refine HVs.out.mono ?_
  rintro e w2 ⟨VA, vc, rfl, hN, k1⟩
  have HNs := Lib.hid hN
  have HKw2 := Lib.hid k1
  have HT := Lib.hid (HT0.out.keep k1 |>.here.mono (S' := fun b => b < w2.heap.size) fun b h => h.2)
  have HR := Lib.hid (HR0.out.keep k1)
  have HK0 : Hid (Keeps w2 w2 []) := Keeps.refl _ _
  have HCa : Hid (∀ a ∈ l, ∀ (v' : TV) W, Keeps w2 W [] → Tr W (fun b => b < w2.heap.size) a v' → Calls Tryd.prog 67 #[.int .i64 k, .slice VA (tVars l).length vc, .agg #[.int .i64 v'.k, .int .i64 v'.n, .string v'.s, .slice v'.A v'.len v'.c]] W (ApDone (fun b => b < w2.heap.size) W (tRn (ren k (tVars l)) a))) := fun a ha v' W kk htr =>
    refRename_any k k0 k9 VA (tVars l).length vc (tVars l) rfl HV.out (walks_nodup [] l List.nodup_nil) a v' W (fun b => b < w2.heap.size) (fun b hb => Nat.lt_of_lt_of_le hb kk.size) htr (HWd.out a ha) (vars_in HWd.out a ha).vs ((HNs.out.keep (w' := W) (fun p hp => kk.cell hp (by simp))).more kk.size)
  clear hN k1 HVs HNs k0 k9
  go_wp2_with fail
  go_loopw [6, 7] (fun x6 x7 wr => ∃ (j : Nat) (A2 : Option Addr) (c2 : Nat) (us : List TV), j ≤ m ∧ x7 = .int .i64 j ∧ x6 = .slice A2 j c2 ∧ LR 24 w2 wr ((l.take j).map (tRn (ren k (tVars l)))) us A2 j c2) (fun _ i _ => m - (intOf i).toNat)
  case atStart => exact ⟨0, none, 0, [], Nat.zero_le _, rfl, rfl, LR.start _ HK0.out⟩
  case round =>
    obtain ⟨j, A2, c2, us, hj, rfl, rfl, st⟩ := hrel
    have HS := Lib.hid st
    clear st
    by_cases hlt : j < m
    · obtain ⟨a, hx⟩ := at_of HM.out hlt
      have HX := Lib.hid hx
      have HMem := Lib.hid (List.mem_of_getElem? hx)
      obtain ⟨v', b, off, _, htr, rfl, hb, p0, p1, p2, p3⟩ := (HT.out.keep HS.out.keep).get (HR.out.keep HS.out.keep) hx
      have HTr := Lib.hid htr
      have b0 : (0 : Int) ≤ (j : Int) := Int.natCast_nonneg _
      have b1 : (j : Int) < (m : Int) := by omega
      clear htr hx
      go_wp2_with fail
      refine (HCa.out a HMem.out v' _ HS.out.keep HTr.out).mono ?_
      rintro e w3 ⟨u, rfl, hu, k3⟩
      have HK3 := Lib.hid k3
      have HU := Lib.hid hu
      unfold tvV
      clear hu k3 p0 p1 p2 p3 hb
      go_wp2_with (at_builtin; have K5 := HK3.out.alloc (.cells #[.int .i64 u.k, .int .i64 u.n, .string u.s, .slice u.A u.len u.c] 24); have hz5 := K5.size; have hz6 := HS.out.keep.size; refine wpList_app _ el_rterm rfl (.tmp 16) (.tmp 24) rfl w2.heap.size A2 j c2 (us.flatMap tvE) rfl (own_keep0 HS.out.own K5) (some ⟨w3.heap.size, 0, none⟩) 1 1 (tvE u) rfl (Rd.one w3 _ (tvE u)) rfl (by simp) (by simp [tvE, Value.oneCell']) (by omega) (by omega) ?_; intro A' c' w2 hown hgrow hat; have HN := Lib.hid (HS.out.push K5 ((HU.out.keep ((Keeps.refl w3 []).alloc _)).mono fun b hb => by omega) hown hgrow hat); clear hown hgrow hat K5 hz5 hz6)
      go_roundw
      case rel =>
        have h1 := HN.out
        rw [show (l.take j).map (tRn (ren k (tVars l))) ++ [(tRn (ren k (tVars l))) a] = (l.take (j + 1)).map (tRn (ren k (tVars l))) by rw [List.take_add_one, HX.out, List.map_append]; rfl] at h1
        exact ⟨j + 1, A', c', _, by omega, by go_num, rfl, h1⟩
      case measure => simp [intOf]; omega
    · obtain rfl : m = j := by omega
      have hd := HS.out.done
      rw [show (l.take m).map (tRn (ren k (tVars l))) = l.map (tRn (ren k (tVars l))) by rw [← HM.out, List.take_length]] at hd
      have HD := Lib.hid hd
      clear hd hlt hj
      go_wp2_with fail
      go_ret
      exact ⟨_, _, _, HD.out.choose_spec.choose_spec.choose_spec.1, HD.out.choose_spec.choose_spec.choose_spec.2.1, HD.out.choose_spec.choose_spec.choose_spec.2.2.1, HKw2.out.trans HD.out.choose_spec.choose_spec.choose_spec.2.2.2⟩

set_option maxRecDepth 100000 in
set_option maxHeartbeats 3200000 in
theorem refAlikeL_any (l l' : List Tm) (vs vs' : List TV) (A A' : Option Addr) (m c m' c' : Nat) (w : World) (hT : Trs w (fun _ => True) l vs) (hR : Rd w A (vs.flatMap tvE)) (hm : l.length = m) (hmb : m ≤ 1000000) (hw : ∀ a ∈ l, tRight a = true) (hv : (tVars l).length ≤ 1000000)
    (hT' : Trs w (fun _ => True) l' vs') (hR' : Rd w A' (vs'.flatMap tvE)) (hm' : l'.length = m') (hmb' : m' ≤ 1000000) (hw' : ∀ a ∈ l', tRight a = true) (hv' : (tVars l').length ≤ 1000000) :
    Calls Tryd.prog 9 #[.slice A m c, .slice A' m' c'] w fun e w' => e = .returned (.bool (tSames (rn 0 l) (rn 0 l'))) ∧ Keeps w w' [] := by
  have HC1 := Lib.hid (refRenameL_any 0 (by omega) (by omega) l vs A m c w hT hR hm hmb hw hv)
  have HC2 : Hid (∀ W, Keeps w W [] → Calls Tryd.prog 33 #[.int .i64 0, .slice A' m' c'] W (LDone W (rn 0 l'))) := fun W k => refRenameL_any 0 (by omega) (by omega) l' vs' A' m' c' W (hT'.keep k) (hR'.keep k) hm' hmb' hw' hv'
  have HL1 : Hid ((rn 0 l).length = m) := by show _ = _; rw [rn_len, hm]
  have HL2 : Hid ((rn 0 l').length = m') := by show _ = _; rw [rn_len, hm']
  have HSm : Hid (∀ (t t' : Tm) (u v : TV) (w : World), Tr w (fun _ => True) t u → Tr w (fun _ => True) t' v → Calls Tryd.prog 34 #[.agg #[.int .i64 u.k, .int .i64 u.n, .string u.s, .slice u.A u.len u.c], .agg #[.int .i64 v.k, .int .i64 v.n, .string v.s, .slice v.A v.len v.c]] w fun e w' => e = .returned (.bool (tSame t t')) ∧ Keeps w w' []) := fun t t' u v w h1 h2 => refSame_any t t' u v w h1 h2
  clear hT hR hm hw hv hT' hR' hm' hw' hv'
  go_enter Tryd.func9, Tryd.ntmps9
  by_cases hmm : m = m'
  case neg =>
    have hne : Hid (tSames (rn 0 l) (rn 0 l') = false) := by
      refine Bool.eq_false_iff.2 fun h => ?_
      have h1 := congrArg List.length ((tSames_iff _ _).1 h)
      rw [HL1.out, HL2.out] at h1
      exact hmm h1
    have e7 : ((m : Int) != (m' : Int)) = true := by simpa using (show ¬ (m : Int) = (m' : Int) by omega)
    have e8 : (m == m') = false := by simpa using hmm
    have e9 : (m != m') = true := by simpa using hmm
    rw [hne.out]
    go_wp2_with fail
    go_ret
    exact ⟨rfl, Keeps.refl _ _⟩
  subst hmm
  go_wp2_with fail
  refine HC1.out.mono ?_
  rintro e w1 ⟨B1, d1, us1, rfl, ht1, hr1, k1⟩
  rw [HL1.out]
  have HT1 := Lib.hid ht1
  have HR1 := Lib.hid hr1
  have HK1 := Lib.hid k1
  clear ht1 hr1 k1 HC1
  go_wp2_with fail
  refine (HC2.out _ HK1.out).mono ?_
  rintro e w2 ⟨B2, d2, us2, rfl, ht2, hr2, k2⟩
  rw [HL2.out]
  have HTa := Lib.hid (HT1.out.keep k2)
  have HRa := Lib.hid (HR1.out.keep k2)
  have HTb := Lib.hid ht2
  have HRb := Lib.hid hr2
  have HK2 := Lib.hid (HK1.out.trans k2)
  obtain ⟨q1, hq1⟩ : ∃ q1, rn 0 l = q1 := ⟨_, rfl⟩
  obtain ⟨q2, hq2⟩ : ∃ q2, rn 0 l' = q2 := ⟨_, rfl⟩
  have HQ1 := Lib.hid hq1
  have HQ2 := Lib.hid hq2
  rw [hq1] at HL1 HTa
  rw [hq2] at HL2 HTb
  clear hq1 hq2
  clear ht2 hr2 k2 HC2 HT1 HR1
  go_wp2_with fail
  go_loopw [7] (fun x7 wr => ∃ j : Nat, j ≤ m ∧ x7 = .int .i64 j ∧ tSames (q1.take j) (q2.take j) = true ∧ Keeps w2 wr []) (fun x7 _ => m - (intOf x7).toNat)
  case atStart => exact ⟨0, Nat.zero_le _, rfl, by simp [tSames], Keeps.refl _ _⟩
  case round =>
    obtain ⟨j, hj, rfl, hpos, hkeep⟩ := hrel
    have HK := Lib.hid hkeep
    have HP := Lib.hid hpos
    clear hpos
    by_cases hlt : j < m
    · obtain ⟨a, hx⟩ := at_of HL1.out hlt
      obtain ⟨a', hy⟩ := at_of HL2.out hlt
      have HN := Lib.hid (tSames_snoc hx hy HP.out)
      have hno := tSames_no hx hy
      obtain ⟨u, b, off, _, htr, rfl, hb, p0, p1, p2, p3⟩ := (HTa.out.keep hkeep).get (HRa.out.keep hkeep) hx
      obtain ⟨v, b', off', _, htr', rfl, hb', q0, q1', q2', q3⟩ := (HTb.out.keep hkeep).get (HRb.out.keep hkeep) hy
      have HW : Hid (∀ W', Keeps wr W' [] → W'.cell? ⟨b, off + j * 4, none⟩ = some (.int .i64 u.k) ∧ W'.cell? ⟨b, off + j * 4 + 1, none⟩ = some (.int .i64 u.n) ∧ W'.cell? ⟨b, off + j * 4 + 2, none⟩ = some (.string u.s) ∧ W'.cell? ⟨b, off + j * 4 + 3, none⟩ = some (.slice u.A u.len u.c) ∧ W'.cell? ⟨b', off' + j * 4, none⟩ = some (.int .i64 v.k) ∧ W'.cell? ⟨b', off' + j * 4 + 1, none⟩ = some (.int .i64 v.n) ∧ W'.cell? ⟨b', off' + j * 4 + 2, none⟩ = some (.string v.s) ∧ W'.cell? ⟨b', off' + j * 4 + 3, none⟩ = some (.slice v.A v.len v.c)) := fun W' kk => ⟨(kk.cell0 hb).trans p0, (kk.cell0 hb).trans p1, (kk.cell0 hb).trans p2, (kk.cell0 hb).trans p3, (kk.cell0 hb').trans q0, (kk.cell0 hb').trans q1', (kk.cell0 hb').trans q2', (kk.cell0 hb').trans q3⟩
      have HCe0 : Hid (∀ W', Keeps wr W' [] → Calls Tryd.prog 34 #[.agg #[.int .i64 u.k, .int .i64 u.n, .string u.s, .slice u.A u.len u.c], .agg #[.int .i64 v.k, .int .i64 v.n, .string v.s, .slice v.A v.len v.c]] W' fun e w' => e = .returned (.bool (tSame a a')) ∧ Keeps W' w' []) := fun W' kk => HSm.out a a' u v W' (htr.keep kk) (htr'.keep kk)
      have b0 : (0 : Int) ≤ (j : Int) := Int.natCast_nonneg _
      have b1 : (j : Int) < (m : Int) := by omega
      clear hx hy htr htr' hb hb' p0 p1 p2 p3 q0 q1' q2' q3 hkeep
      cases hr : tSame a a' with
      | false =>
        have HO : Hid (tSames q1 q2 = false) := hno hr
        have HCe := HCe0
        rw [hr] at HCe
        clear hno hr HCe0
        go_upto_region 7 with fail
        refine wp_region_tx (fun W' => W'.cell? ⟨b, off + j * 4, none⟩ = some (.int .i64 u.k) ∧ W'.cell? ⟨b, off + j * 4 + 1, none⟩ = some (.int .i64 u.n) ∧ W'.cell? ⟨b, off + j * 4 + 2, none⟩ = some (.string u.s) ∧ W'.cell? ⟨b, off + j * 4 + 3, none⟩ = some (.slice u.A u.len u.c) ∧ W'.cell? ⟨b', off' + j * 4, none⟩ = some (.int .i64 v.k) ∧ W'.cell? ⟨b', off' + j * 4 + 1, none⟩ = some (.int .i64 v.n) ∧ W'.cell? ⟨b', off' + j * 4 + 2, none⟩ = some (.string v.s) ∧ W'.cell? ⟨b', off' + j * 4 + 3, none⟩ = some (.slice v.A v.len v.c)) [(0, true), (1, true), (2, true), (3, true), (4, true), (5, true), (6, true), (7, true), (8, false), (9, false)] (by kernel_rfl) (by kernel_rfl) (HW.out _ (Keeps.refl _ []).drew) (fun hHeld => ?_)
        (repeat (first | (refine wpTx_take (v := ?_) rfl (by assumption) ?_ (by rfl) ?_; rotate_left; (focus (intro w' hSw; (try dsimp only at hSw); go_simp; (try with_reducible rfl); done)); simp only [Act.put, List.setIfInBounds_toArray, List.set_cons_zero, List.set_cons_succ]) | (refine wpTx_skip rfl (by assumption) (by rfl) ?_; simp only [Act.put, List.setIfInBounds_toArray, List.set_cons_zero, List.set_cons_succ])))
        refine wpTx_go rfl (fun K hK => ?_)
        go_simp
        refine (HCe.out _ (Keeps.refl _ []).drew).mono ?_
        rintro e w5 ⟨rfl, k5⟩
        refine hK.out _ _ ?_ ?_
        · exact HW.out _ ((Keeps.refl _ []).drew.trans k5)
        (clear hHeld; intro hHeld; clear hK K)
        refine wpTx_last rfl (fun K hK => ?_)
        go_simp
        refine hK.out _ _ (NoPanic.normal ?_); clear hK K; (try simp only [Act.put, List.setIfInBounds_toArray, List.set_cons_zero, List.set_cons_succ])
        go_wp2_with fail
        go_ret
        exact ⟨by rw [HQ1.out, HQ2.out, HO.out]; rfl, HK2.out.trans (HK.out.trans ((Keeps.refl _ []).drew.trans k5))⟩
      | true =>
        have HCe := HCe0
        rw [hr] at HCe
        have HT1 : Hid (tSame a a' = true) := hr
        clear hno hr HCe0
        go_upto_region 7 with fail
        refine wp_region_tx (fun W' => W'.cell? ⟨b, off + j * 4, none⟩ = some (.int .i64 u.k) ∧ W'.cell? ⟨b, off + j * 4 + 1, none⟩ = some (.int .i64 u.n) ∧ W'.cell? ⟨b, off + j * 4 + 2, none⟩ = some (.string u.s) ∧ W'.cell? ⟨b, off + j * 4 + 3, none⟩ = some (.slice u.A u.len u.c) ∧ W'.cell? ⟨b', off' + j * 4, none⟩ = some (.int .i64 v.k) ∧ W'.cell? ⟨b', off' + j * 4 + 1, none⟩ = some (.int .i64 v.n) ∧ W'.cell? ⟨b', off' + j * 4 + 2, none⟩ = some (.string v.s) ∧ W'.cell? ⟨b', off' + j * 4 + 3, none⟩ = some (.slice v.A v.len v.c)) [(0, true), (1, true), (2, true), (3, true), (4, true), (5, true), (6, true), (7, true), (8, false), (9, false)] (by kernel_rfl) (by kernel_rfl) (HW.out _ (Keeps.refl _ []).drew) (fun hHeld => ?_)
        (repeat (first | (refine wpTx_take (v := ?_) rfl (by assumption) ?_ (by rfl) ?_; rotate_left; (focus (intro w' hSw; (try dsimp only at hSw); go_simp; (try with_reducible rfl); done)); simp only [Act.put, List.setIfInBounds_toArray, List.set_cons_zero, List.set_cons_succ]) | (refine wpTx_skip rfl (by assumption) (by rfl) ?_; simp only [Act.put, List.setIfInBounds_toArray, List.set_cons_zero, List.set_cons_succ])))
        refine wpTx_go rfl (fun K hK => ?_)
        go_simp
        refine (HCe.out _ (Keeps.refl _ []).drew).mono ?_
        rintro e w5 ⟨rfl, k5⟩
        refine hK.out _ _ ?_ ?_
        · exact HW.out _ ((Keeps.refl _ []).drew.trans k5)
        (clear hHeld; intro hHeld; clear hK K)
        refine wpTx_last rfl (fun K hK => ?_)
        go_simp
        refine hK.out _ _ (NoPanic.normal ?_); clear hK K; (try simp only [Act.put, List.setIfInBounds_toArray, List.set_cons_zero, List.set_cons_succ])
        go_wp2_with fail
        go_roundw
        case rel => exact ⟨j + 1, by omega, by go_num, by rw [HN.out, HT1.out], HK.out.trans ((Keeps.refl _ []).drew.trans k5)⟩
        case measure => simp [intOf]; omega
    · obtain rfl : m = j := by omega
      have HA : Hid (tSames q1 q2 = true) := by
        show _ = _
        have h1 := HP.out
        rw [List.take_of_length_le (by rw [HL1.out]; omega), List.take_of_length_le (by rw [HL2.out]; omega)] at h1
        exact h1
      have HK9 := Lib.hid (HK2.out.trans HK.out)
      clear hlt hj hkeep
      go_wp2_with fail
      go_ret
      exact ⟨by rw [HQ1.out, HQ2.out, HA.out]; rfl, HK9.out⟩
end Go.Proofs.YtnonfmaehfmigaaDoor
