/- The program's Parse. -/
import Derived.Test.YtjbomjnkjcafcaaDoorTmTermB
import Derived.Test.YtjbomjnkjcafcaaDoorTmRightP
namespace Go.Proofs.YtjbomjnkjcafcaaDoor
open Go.RowKit

def tZero : Tm := .mk 0 0 ⟨#[]⟩ []
/-- What Parse tells: a term, and what was wrong. -/
def parseP (s : Txt) : Option Tm := if 10000 < s.length then none else parseTm numP s
def errOf (o : Option Tm) : Int := if o.isSome then 0 else 17
def ParseDone (w : World) (o : Option Tm) (e : Ending) (w' : World) : Prop := ∃ v, e = .returned (.tuple #[tvV v, .int .i64 (errOf o)]) ∧ Tr w' (fun b => w.heap.size ≤ b) (o.getD tZero) v ∧ Keeps w w' []
theorem ParseDone.zero {w wr : World} {o : Option Tm} (ho : o = none) (k : Keeps w wr []) : ParseDone w o (.returned (.tuple #[.agg #[.int .i64 0, .int .i64 0, .string ⟨#[]⟩, .slice none 0 0], .int .i64 17])) wr := by
  subst ho
  exact ⟨⟨0, 0, ⟨#[]⟩, none, 0, 0⟩, rfl, Tr.leaf _ _ _ _ _ (by decide), k⟩
theorem ParseDone.zero4 {w wr : World} {o : Option Tm} (ho : o = none) (k : Keeps w wr []) (v0 v1 v2 v3 : Value) : ParseDone w o (.returned (.tuple #[.agg #[.int .i64 0, .int .i64 0, .string ⟨#[]⟩, .slice none 0 0], .int .i64 17])) ((((wr.setCell ⟨w.heap.size, 0, none⟩ v0).setCell ⟨w.heap.size, 1, none⟩ v1).setCell ⟨w.heap.size, 2, none⟩ v2).setCell ⟨w.heap.size, 3, none⟩ v3) := .zero ho (keeps_set4 k (Nat.le_refl _) _ _ _ _)
theorem ParseDone.some {w wr : World} {o : Option Tm} {t : Tm} {v : TV} (ho : o = Option.some t) (h : Tr wr (fun b => w.heap.size ≤ b ∧ b ≠ w.heap.size) t v) (k : Keeps w wr []) (v0 v1 v2 v3 : Value) :
    ParseDone w o (.returned (.tuple #[.agg #[.int .i64 v.k, .int .i64 v.n, .string v.s, .slice v.A v.len v.c], .int .i64 0])) ((((wr.setCell ⟨w.heap.size, 0, none⟩ v0).setCell ⟨w.heap.size, 1, none⟩ v1).setCell ⟨w.heap.size, 2, none⟩ v2).setCell ⟨w.heap.size, 3, none⟩ v3) := by
  subst ho
  exact ⟨v, rfl, (h.keepL (keeps_self4 wr w.heap.size v0 v1 v2 v3) (fun b hb h => h.2 (by simpa using hb))).mono fun b hb => hb.1, keeps_set4 k (Nat.le_refl _) _ _ _ _⟩

set_option maxRecDepth 100000 in
set_option maxHeartbeats 3200000 in
theorem parse_any (s : ByteArray) (w : World) (h : St w) : Calls Tryd.prog 13 #[.string s] w (ParseDone w (parseP s.data.toList)) := by
  have hsl : s.data.toList.length = s.size := rfl
  have HB0 : Hid (Blk ((w.alloc (.cells #[.int .i64 0, .int .i64 0, .string ⟨#[]⟩, .slice none 0 0] 29)).alloc (.cells #[.string s, .bool false] 54)) w.heap.size 29 #[.int .i64 0, .int .i64 0, .string ⟨#[]⟩, .slice none 0 0]) := (Blk.new _ _ _).alloc _
  have HK0 : Hid (Keeps w ((w.alloc (.cells #[.int .i64 0, .int .i64 0, .string ⟨#[]⟩, .slice none 0 0] 29)).alloc (.cells #[.string s, .bool false] 54)) []) := ((Keeps.refl w []).alloc _).alloc _
  by_cases hlong : 10000 < s.size
  · have d0 : decide (10000 < (s.size : Int)) = true := by simp; omega
    have HE : Hid (parseP s.data.toList = none) := by show _ = _; rw [parseP, if_pos (by omega)]
    clear h
    unfold ParseDone
    go_enter Tryd.func13, Tryd.ntmps13
    have hb := HB0.out
    have zc0 := hb.cell 0
    have zf0 := hb.frozen 0
    have zc1 := hb.cell 1
    have zf1 := hb.frozen 1
    have zc2 := hb.cell 2
    have zf2 := hb.frozen 2
    have zc3 := hb.cell 3
    have zf3 := hb.frozen 3
    clear hb
    have HD := Lib.hid (ParseDone.zero HE.out HK0.out)
    unfold ParseDone at HD
    go_wp2_with fail
    exact bodyPost_ret (v := .tuple #[.agg #[.int .i64 0, .int .i64 0, .string ⟨#[]⟩, .slice none 0 0], .int .i64 17]) (by simp [results, Tryd.results13, go_sem, *]) rfl HD.out
  have d0 : decide (10000 < (s.size : Int)) = false := by simp; omega
  have hrs : RSt (w.alloc (.cells #[.int .i64 0, .int .i64 0, .string ⟨#[]⟩, .slice none 0 0] 29)) ((w.alloc (.cells #[.int .i64 0, .int .i64 0, .string ⟨#[]⟩, .slice none 0 0] 29)).alloc (.cells #[.string s, .bool false] 54)) (w.heap.size + 1) s.data.toList false :=
    ⟨h.keep ((Keeps.refl w []).alloc _), (Keeps.refl _ []).alloc _, by simp, by rw [stB_of]; exact Blk.newAt _ _ (by simp), by omega⟩
  obtain ⟨rb, hrb⟩ : ∃ rb, w.heap.size + 1 = rb := ⟨_, rfl⟩
  rw [hrb] at hrs
  have HT := Lib.hid (term_any (s.data.toList.length + 1) s.data.toList _ _ rb hrs (by omega))
  have HP : Hid (parseP s.data.toList = match pTerm numP (s.data.toList.length + 1) s.data.toList with | some (t, []) => if tRight t then some t else none | _ => none) := by show _ = _; rw [parseP, if_neg (by omega)]; rfl
  generalize parseP s.data.toList = R at *
  generalize pTerm numP (s.data.toList.length + 1) s.data.toList = r at *
  clear h hrs hlong
  unfold TermDone at HT
  go_enter Tryd.func13, Tryd.ntmps13
  go_wp2_with fail
  refine HT.out.mono ?_
  rintro e w1 ⟨t1, v1, rfl, ht1, k1, s1, x1⟩
  have hz1 : rb < w1.heap.size := by have := k1.size; simp at this; omega
  have HG : Hid (Blk (w1.alloc (.cells #[.int .i64 v1.k, .int .i64 v1.n, .string v1.s, .slice v1.A v1.len v1.c] 29)) w1.heap.size 29 #[.int .i64 v1.k, .int .i64 v1.n, .string v1.s, .slice v1.A v1.len v1.c]) := Blk.new _ _ _
  have HB1 := Lib.hid ((HB0.out.keep k1 (by simp; omega)).alloc (.cells #[.int .i64 v1.k, .int .i64 v1.n, .string v1.s, .slice v1.A v1.len v1.c] 29))
  have HK1 : Hid (Keeps w (w1.alloc (.cells #[.int .i64 v1.k, .int .i64 v1.n, .string v1.s, .slice v1.A v1.len v1.c] 29)) []) := (HK0.out.past6 k1 (by simp; omega)).alloc _
  have HT1 := Lib.hid (ht1.keep ((Keeps.refl w1 []).alloc (.cells #[.int .i64 v1.k, .int .i64 v1.n, .string v1.s, .slice v1.A v1.len v1.c] 29)))
  have HS1 := Lib.hid (s1.keep ((Keeps.refl w1 []).alloc (.cells #[.int .i64 v1.k, .int .i64 v1.n, .string v1.s, .slice v1.A v1.len v1.c] 29)))
  have HX1 := Lib.hid x1
  unfold tvV
  clear ht1 k1 s1 x1 HT HK0 HB0
  have hb := HB1.out
  have zc0 := hb.cell 0
  have zf0 := hb.frozen 0
  have zc1 := hb.cell 1
  have zf1 := hb.frozen 1
  have zc2 := hb.cell 2
  have zf2 := hb.frozen 2
  have zc3 := hb.cell 3
  have zf3 := hb.frozen 3
  have hg := HG.out
  have yc0 := hg.cell 0
  have yf0 := hg.frozen 0
  have yc1 := hg.cell 1
  have yf1 := hg.frozen 1
  have yc2 := hg.cell 2
  have yf2 := hg.frozen 2
  have yc3 := hg.cell 3
  have yf3 := hg.frozen 3
  clear hb hg
  cases r with
  | none =>
    obtain ⟨l9, hl9⟩ := HS1.out.2 rfl
    have b1 := hl9.blk.cell 1
    have HD := Lib.hid (ParseDone.zero4 (o := R) (by rw [HP.out]) HK1.out (.int .i64 0) (.int .i64 0) (.string ⟨#[]⟩) (.slice none 0 0))
    unfold ParseDone at HD
    clear hl9
    go_wp2_with fail
    exact bodyPost_ret (v := .tuple #[.agg #[.int .i64 0, .int .i64 0, .string ⟨#[]⟩, .slice none 0 0], .int .i64 17]) (by simp [results, Tryd.results13, go_sem, *]) rfl HD.out
  | some x =>
    obtain ⟨t, rest⟩ := x
    have hs := HS1.out.1 rest rfl
    have b1 := hs.blk.cell 1
    have b0 := hs.blk.cell 0
    obtain rfl : t1 = t := HX1.out _ rfl
    clear hs
    cases rest with
    | cons c rest =>
      have d1 : (stB (c :: rest)).toList.isEmpty = false := by rw [empty_size, stB_size]; simp
      have HD := Lib.hid (ParseDone.zero4 (o := R) (by rw [HP.out]) HK1.out (.int .i64 0) (.int .i64 0) (.string ⟨#[]⟩) (.slice none 0 0))
      unfold ParseDone at HD
      go_wp2_with fail
      exact bodyPost_ret (v := .tuple #[.agg #[.int .i64 0, .int .i64 0, .string ⟨#[]⟩, .slice none 0 0], .int .i64 17]) (by simp [results, Tryd.results13, go_sem, *]) rfl HD.out
    | nil =>
      have d1 : (stB []).toList.isEmpty = true := by rw [empty_size, stB_size]; simp
      have hrt := right_any t1 v1 _ (HT1.out.mono fun _ _ => trivial)
      cases hr : tRight t1 with
      | false =>
        rw [hr] at hrt
        have HR := Lib.hid hrt
        have HE : Hid (R = none) := by show _ = _; rw [HP.out]; simp [hr]
        unfold tvV at HR
        clear hrt hr
        go_wp2_with fail
        refine HR.out.mono ?_
        rintro e w2 ⟨rfl, k2⟩
        have hb := HB1.out.keep k2 (by simp)
        have nc0 := hb.cell 0
        have nf0 := hb.frozen 0
        have nc1 := hb.cell 1
        have nf1 := hb.frozen 1
        have nc2 := hb.cell 2
        have nf2 := hb.frozen 2
        have nc3 := hb.cell 3
        have nf3 := hb.frozen 3
        have HD := Lib.hid (ParseDone.zero4 (o := R) HE.out (HK1.out.trans k2) (.int .i64 0) (.int .i64 0) (.string ⟨#[]⟩) (.slice none 0 0))
        unfold ParseDone at HD
        clear hb k2
        go_wp2_with fail
        exact bodyPost_ret (v := .tuple #[.agg #[.int .i64 0, .int .i64 0, .string ⟨#[]⟩, .slice none 0 0], .int .i64 17]) (by simp [results, Tryd.results13, go_sem, *]) rfl HD.out
      | true =>
        rw [hr] at hrt
        have HR := Lib.hid hrt
        have HE : Hid (R = some t1) := by show _ = _; rw [HP.out]; simp [hr]
        unfold tvV at HR
        clear hrt hr
        go_wp2_with fail
        refine HR.out.mono ?_
        rintro e w2 ⟨rfl, k2⟩
        have hb := HB1.out.keep k2 (by simp)
        have nc0 := hb.cell 0
        have nf0 := hb.frozen 0
        have nc1 := hb.cell 1
        have nf1 := hb.frozen 1
        have nc2 := hb.cell 2
        have nf2 := hb.frozen 2
        have nc3 := hb.cell 3
        have nf3 := hb.frozen 3
        have hg := HG.out.keep k2 (by simp)
        have mc0 := hg.cell 0
        have mf0 := hg.frozen 0
        have mc1 := hg.cell 1
        have mf1 := hg.frozen 1
        have mc2 := hg.cell 2
        have mf2 := hg.frozen 2
        have mc3 := hg.cell 3
        have mf3 := hg.frozen 3
        have HD := Lib.hid (ParseDone.some (o := R) (v := v1) HE.out ((HT1.out.keep k2).mono fun b hb => by simp at hb; omega) (HK1.out.trans k2) (.int .i64 v1.k) (.int .i64 v1.n) (.string v1.s) (.slice v1.A v1.len v1.c))
        unfold ParseDone at HD
        clear hb k2 hg
        go_wp2_with fail
        exact bodyPost_ret (v := .tuple #[.agg #[.int .i64 v1.k, .int .i64 v1.n, .string v1.s, .slice v1.A v1.len v1.c], .int .i64 0]) (by simp [results, Tryd.results13, go_sem, *]) rfl HD.out
end Go.Proofs.YtjbomjnkjcafcaaDoor
