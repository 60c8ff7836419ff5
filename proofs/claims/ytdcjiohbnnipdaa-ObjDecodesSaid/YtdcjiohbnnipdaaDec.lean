/- The walk of obj.Decode. -/
import Derived.Test.YtdcjiohbnnipdaaReadOb
namespace Go.Proofs.Ytdcjiohbnnipdaa
open Go.RowKit
attribute [local irreducible] takeR numR nameR insR kindsOf nameOf bigB checkE headR objR Crc.go Crc.int

theorem own_room {w : World} {base n c size : Nat} {e : TypeId} {A : Option Addr} {xs : List Value} (h : w.ownsRow base e size (.slice A n c) n xs) : n ≤ c ∧ ∀ a, A = some a → a.block < w.heap.size := by
  rcases h.2 with ⟨h2, h3⟩ | ⟨g, cap, cur, hv, hb, hg, hn, _⟩
  · injection h2 with h4 h5 h6
    subst h4
    exact ⟨by omega, fun a ha => by cases ha⟩
  · injection hv with h4 h5 h6
    subst h4 h6
    refine ⟨hn, fun a ha => ?_⟩
    injection ha with ha
    subst ha
    exact (Array.getElem?_eq_some_iff.1 hg).1
def Cloned (w : World) (n : Nat) (l : List Int) (e : Ending) (w' : World) : Prop :=
  ∃ A' c', e = .returned (.slice A' n c') ∧ n ≤ c' ∧ Rd w' A' (u8s l) ∧ (∀ a, A' = some a → a.block < w'.heap.size) ∧ Keeps w w' []
set_option maxRecDepth 20000 in
set_option maxHeartbeats 400000 in
theorem cloneBytes_any (A : Option Addr) (n c : Nat) (l : List Int) (w : World) (hl : l.length = n) (hn : n ≤ 65536) (hA : Rd w A (u8s l)) :
    Calls Try.prog 43 #[.slice A n c] w (Cloned w n l) := by
  cases A with
  | none =>
    have h0 : l = [] := by
      cases l with
      | nil => rfl
      | cons x t =>
        obtain ⟨b, off, v, e, _⟩ := hA 0 (by simp [u8s])
        cases e
    subst h0
    simp only [List.length_nil] at hl
    subst hl
    clear hA hn
    go_enter Try.func43, Try.ntmps43
    have hne := Lib.run_eql_slice_nil (P := Try.prog)
    go_wp2_with fail
    go_ret
    exact ⟨none, 0, rfl, Nat.le_refl _, Rd.nil, (fun a h => by cases h), Keeps.refl _ _⟩
  | some A =>
  have HL := Lib.hid hl
  have HA := Lib.hid hA
  have hne := Lib.run_eql_slice_nil (P := Try.prog)
  clear hl hA
  go_enter Try.func43, Try.ntmps43
  go_wp2_with (at_builtin; refine wpList_app _ el_u8 rfl (.tmp 5) (.tmp 6) rfl w.heap.size (some ⟨w.heap.size, 0, none⟩) 0 0 [] rfl (own_empty _ _) (some A) n c (u8s l) rfl (HA.out.alloc _) (by rw [u8s_len, HL.out, Nat.mul_one]) (by simp) (u8s_one _) (by omega) (by simp) ?_; intro A1 c1 w1 hown hgrow hat; simp only [Nat.zero_add, List.nil_append] at hown hat; have HO := Lib.hid hown; have k1 : Keeps w w1 [] := ((Keeps.refl w []).alloc _).grown hgrow (fun q hq => .inr (by simp [Value.ownBlock] at hq; omega)); have HK := Lib.hid k1; clear hown hgrow hat k1)
  go_ret
  exact ⟨A1, c1, by simp, (own_room HO.out).1, Rd.of_own HO.out, (own_room HO.out).2, HK.out⟩

def DecDone (w : World) (r : LObj × Int) (e : Ending) (w' : World) : Prop :=
  ∃ Aa Af Ap Ac ca cf cp cc, e = .returned (.tuple #[.agg #[.slice Aa r.1.atoms.length ca, .slice Af r.1.funs.length cf, .slice Ap r.1.preds.length cp, .slice Ac r.1.code.length cc], .int .i64 r.2]) ∧ ObIs w' r.1 Aa Af Ap Ac ca cf cp cc ∧ Keeps w w' []
theorem numR_le (k : Nat) (s : RdS) : (numR k s).2.rest.length ≤ s.rest.length := by unfold numR; exact takeR_restLen k s
theorem nameR_le (s : RdS) : (nameR s).2.rest.length ≤ s.rest.length := by unfold nameR; exact Nat.le_trans (takeR_restLen _ _) (numR_le 1 s)
theorem argsR_le : ∀ (ks : List Int) (s : RdS), (argsR ks s).2.rest.length ≤ s.rest.length
  | [], _ => Nat.le_refl _
  | k :: ks, s => by rw [argsR]; exact Nat.le_trans (argsR_le ks _) (numR_le _ s)
theorem opR_le (op : Nat) (s : RdS) : (opR op s).rest.length ≤ s.rest.length := by unfold opR; split <;> exact Nat.le_refl _
theorem insR_le (s : RdS) : (insR s).2.rest.length ≤ s.rest.length := by
  unfold insR
  exact Nat.le_trans (argsR_le _ _) (Nat.le_trans (opR_le _ _) (numR_le 1 s))
theorem funR_le (s : RdS) : (funR s).2.rest.length ≤ s.rest.length := by unfold funR; exact Nat.le_trans (numR_le _ _) (nameR_le s)
theorem predR_le (s : RdS) : (predR s).2.rest.length ≤ s.rest.length := by unfold predR; exact Nat.le_trans (numR_le _ _) (Nat.le_trans (numR_le _ _) (nameR_le s))
theorem manyR_le {α : Type} {rd : RdS → α × RdS} (h : ∀ s, (rd s).2.rest.length ≤ s.rest.length) : ∀ (n : Nat) (s : RdS), (manyR rd n s).2.rest.length ≤ s.rest.length
  | 0, _ => Nat.le_refl _
  | n + 1, s => by
    rw [manyR]
    split
    · exact Nat.le_trans (manyR_le h n _) (h s)
    · exact Nat.le_refl _
theorem markR_le (c : Int) (s : RdS) : (markR c s).rest.length ≤ s.rest.length := by
  unfold markR
  split <;> exact takeR_restLen 1 s
theorem magicR_le (s : RdS) : (magicR s).rest.length ≤ s.rest.length := by
  unfold magicR magicL
  exact Nat.le_trans (markR_le _ _) (Nat.le_trans (markR_le _ _) (Nat.le_trans (markR_le _ _) (Nat.le_trans (markR_le _ _) (markR_le _ s))))
theorem fullR_le (a b c d : Nat) (s : RdS) : (fullR a b c d s).rest.length ≤ s.rest.length := by unfold fullR; split <;> exact Nat.le_refl _
theorem headR_le (s : RdS) : (headR s).s.rest.length ≤ s.rest.length := by
  unfold headR
  exact Nat.le_trans (fullR_le _ _ _ _ _) (Nat.le_trans (numR_le _ _) (Nat.le_trans (numR_le _ _) (Nat.le_trans (numR_le _ _) (Nat.le_trans (numR_le _ _) (magicR_le s)))))
theorem partsR_le (h : HdR) : (partsR h).2.rest.length ≤ h.s.rest.length := by
  unfold partsR
  exact Nat.le_trans (manyR_le insR_le _ _) (Nat.le_trans (manyR_le predR_le _ _) (Nat.le_trans (manyR_le funR_le _ _) (manyR_le nameR_le _ _)))
theorem checkR_le (o : LObj) (s : RdS) : (checkR o s).rest.length ≤ s.rest.length := by unfold checkR; split <;> exact Nat.le_refl _
theorem objR_le (s : RdS) : (objR s).2.rest.length ≤ s.rest.length := by
  unfold objR
  exact Nat.le_trans (checkR_le _ _) (Nat.le_trans (partsR_le _) (headR_le s))
theorem noObj_is (w : World) : ObIs w noObj none none none none 0 0 0 0 := ⟨Rd.nil, Rd.nil, Rd.nil, Rd.nil, fun _ => rfl, fun _ => rfl, fun _ => rfl, fun _ => rfl⟩
theorem ObIs.keepOff {w w' : World} {o : LObj} {Aa Af Ap Ac : Option Addr} {ca cf cp cc g b : Nat} (h : ObIs w o Aa Af Ap Ac ca cf cp cc) (k : Keeps w w' [g]) (hl : ∀ a, Aa = some a ∨ Af = some a ∨ Ap = some a ∨ Ac = some a → b ≤ a.block) (hg : g < b) : ObIs w' o Aa Af Ap Ac ca cf cp cc :=
  ⟨h.atoms.keepOff k (fun a e => by have := hl a (.inl e); simp; omega), h.funs.keepOff k (fun a e => by have := hl a (.inr (.inl e)); simp; omega), h.preds.keepOff k (fun a e => by have := hl a (.inr (.inr (.inl e))); simp; omega), h.code.keepOff k (fun a e => by have := hl a (.inr (.inr (.inr e))); simp; omega), h.za, h.zf, h.zp, h.zc⟩

set_option maxRecDepth 100000 in
set_option maxHeartbeats 6400000 in
theorem decode_any (A : Option Addr) (n c : Nat) (l : List Int) (w : World) (hl : l.length = n) (hn : n ≤ 65536) (hc : n ≤ c) (hA : Rd w A (u8s l)) (hB : IsByte l) :
    Calls Try.prog 11 #[.slice A n c] w (DecDone w (decB l)) := by
  have HL := Lib.hid hl
  have HA := Lib.hid hA
  have HB := Lib.hid hB
  obtain ⟨W1, hW1⟩ : ∃ W1, w.alloc (.cells #[.slice none 0 0, .slice none 0 0, .slice none 0 0, .slice none 0 0] 30) = W1 := ⟨_, rfl⟩
  have k1 : Keeps w W1 [] := by rw [← hW1]; exact (Keeps.refl w []).alloc _
  have HR1 : Hid (Blk W1 w.heap.size 30 #[.slice none 0 0, .slice none 0 0, .slice none 0 0, .slice none 0 0]) := by show Blk _ _ _ _; rw [← hW1]; exact Blk.new w _ _
  have HK1 := Lib.hid k1
  have HC := Lib.hid (cloneBytes_any A n c l W1 hl hn (hA.keep k1))
  have hsz1 := k1.size
  clear hl hA hB k1
  go_enter Try.func11, Try.ntmps11
  go_wp2_with fail
  refine HC.out.mono ?_
  rintro e w2 ⟨A', c', rfl, hc', hrd, hab, k2⟩
  have hst : RdrAt (w2.alloc (.cells #[.slice A' n c', .int .i64 0] 95)) w2.heap.size (w2.heap.size + 1) ⟨l, 0⟩ :=
    ⟨⟨A', n, c', Blk.new w2 _ _, HL.out, hc', hrd.alloc _, fun a ha => by have := hab a ha; omega⟩, by omega, by simp, HB.out, by have := HL.out; show l.length ≤ _; omega⟩
  have HO := Lib.hid (robj_any _ _ _ _ hst)
  have HK2 := Lib.hid ((HK1.out.trans k2).alloc (.cells #[.slice A' n c', .int .i64 0] 95))
  have HR2 := Lib.hid ((HR1.out.keep k2 (by simp)).alloc (.cells #[.slice A' n c', .int .i64 0] 95))
  have hsz2 := k2.size
  have hlt2 : w.heap.size < w2.heap.size := (HR1.out.keep k2 (by simp)).lt
  clear hrd hab k2 hst
  go_wp2_with fail
  refine HO.out.mono ?_
  rintro e w3 ⟨Aa, Af, Ap, Ac, ca, cf, cp, cc, rfl, hob, hlow, hr3, k3⟩
  have hle := objR_le ⟨l, 0⟩
  have HDec : Hid (decB l = if (numR 4 (objR ⟨l, 0⟩).2).2.err ≠ 0 then (noObj, (numR 4 (objR ⟨l, 0⟩).2).2.err) else if (numR 4 (objR ⟨l, 0⟩).2).2.rest ≠ [] then (noObj, 4) else if ((numR 4 (objR ⟨l, 0⟩).2).1 : Int) ≠ Crc.int (Crc.go 0#32 (l.take (l.length - (objR ⟨l, 0⟩).2.rest.length))) then (noObj, 6) else ((objR ⟨l, 0⟩).1, 0)) := rfl
  obtain ⟨⟨o, s1⟩, hos⟩ : ∃ r, objR ⟨l, 0⟩ = r := ⟨_, rfl⟩
  rw [hos] at hob hr3 hle HDec HO ⊢
  clear hos
  replace hob : ObIs w3 o Aa Af Ap Ac ca cf cp cc := hob
  replace hr3 : RdrAt w3 w2.heap.size (w2.heap.size + 1) s1 := hr3
  replace hle : s1.rest.length ≤ l.length := hle
  rw [HL.out] at hle HDec
  obtain ⟨na, hna⟩ : ∃ m, o.atoms.length = m := ⟨_, rfl⟩
  obtain ⟨nf, hnf⟩ : ∃ m, o.funs.length = m := ⟨_, rfl⟩
  obtain ⟨np, hnp⟩ : ∃ m, o.preds.length = m := ⟨_, rfl⟩
  obtain ⟨nc, hnc⟩ : ∃ m, o.code.length = m := ⟨_, rfl⟩
  rw [hna, hnf, hnp, hnc]
  have Hna := Lib.hid hna
  have Hnf := Lib.hid hnf
  have Hnp := Lib.hid hnp
  have Hnc := Lib.hid hnc
  have hs3 := k3.size
  simp at hs3
  have k03 := HK2.out.past k3 (fun q hq => by simp at hq; simp; omega)
  have HRs3 := HR2.out.keep k3 (by simp; omega)
  have HW := Lib.hid ((Keeps.refl w3 []).alloc (.cells #[.slice Aa na ca, .slice Af nf cf, .slice Ap np cp, .slice Ac nc cc] 30))
  have HOb4 := Lib.hid (hob.keep HW.out)
  have hr4 := hr3.keep0 HW.out
  have HK4 := Lib.hid (k03.trans HW.out)
  have HRes4 := Lib.hid (HRs3.keep HW.out (by simp))
  have HBx4 : Hid (Blk (w3.alloc (.cells #[.slice Aa na ca, .slice Af nf cf, .slice Ap np cp, .slice Ac nc cc] 30)) w3.heap.size 30 #[.slice Aa na ca, .slice Af nf cf, .slice Ap np cp, .slice Ac nc cc]) := Blk.new w3 _ _
  obtain ⟨A1, n1, c1, hb1, hn1, hc1, hrd1, hoff1⟩ := hr4.ex
  rw [hn1] at hle HDec
  have q0 := hb1.cell 0
  have hnum := rnum_any 4 (by omega) _ _ _ _ hr4
  have hv := numR_lt (k := 4) hr4.byte
  obtain ⟨⟨v, s2⟩, hvs⟩ : ∃ r, numR 4 s1 = r := ⟨_, rfl⟩
  rw [hvs] at hnum HDec hv
  simp only at hnum HDec hv
  have HNum := Lib.hid hnum
  have b0 : (0 : Int) ≤ (n : Int) - (n1 : Int) := by omega
  have b1 : (n : Int) - (n1 : Int) ≤ (c : Int) := by omega
  clear hob hr3 hna hnf hnp hnc k3 k03 HRs3 hr4 hb1 hn1 hrd1 hoff1 hnum hvs HO HC HR2 HR1
  go_wp2_with fail
  refine HNum.out.mono ?_
  rintro e w5 ⟨rfl, hr5, k5⟩
  have HOb5 := Lib.hid (HOb4.out.keepOff k5 hlow (by simp))
  have HRes5 := Lib.hid (HRes4.out.keep k5 (by simp; omega))
  have HBx5 := Lib.hid (HBx4.out.keep k5 (by simp; omega))
  have HK5 := Lib.hid (HK4.out.past k5 (fun q hq => by simp at hq; simp; omega))
  have hs5 := k5.size
  simp at hs5
  have q1 := hr5.err
  obtain ⟨A2, n2, c2, hb2, hn2, hc2, hrd2, hoff2⟩ := hr5.ex
  have q2 := hb2.cell 0
  have x0 := HRes5.out.frozen 0
  have x1 := HRes5.out.frozen 1
  have x2 := HRes5.out.frozen 2
  have x3 := HRes5.out.frozen 3
  have v0 := HRes5.out.cell 0
  have v1 := HRes5.out.cell 1
  have v2 := HRes5.out.cell 2
  have v3 := HRes5.out.cell 3
  have hwr : IntKind.u32.wrap (v : Int) = v := by rw [IntKind.wrap_u32]; omega
  have HN2 := Lib.hid hn2
  clear hb2 hrd2 hoff2 hn2 k5 hr5 q0 HOb4 HRes4 HBx4 HK4 HNum
  by_cases he : s2.err = 0
  case neg =>
    have d0 : (s2.err != 0) = true := by simpa using he
    have HQ : Hid (decB l = (noObj, s2.err)) := HDec.out.trans (if_pos he)
    clear he HDec
    have HRes9 := HRes5
    go_upto_region 6 with fail
    go_region
    go_wp2_with fail
    clear x0 x1 x2 x3 v0 v1 v2 v3
    obtain ⟨hB, hk1⟩ := arr4_set (v0 := .slice none 0 0) (v1 := .slice none 0 0) (v2 := .slice none 0 0) (v3 := .slice none 0 0) HRes9.out
    generalize World.setCell _ ⟨w.heap.size, 3, none⟩ _ = W at *
    have y0 : World.cell? W.drew ⟨w.heap.size, 0, none⟩ = _ := hB.cell 0
    have y1 : World.cell? W.drew ⟨w.heap.size, 1, none⟩ = _ := hB.cell 1
    have y2 : World.cell? W.drew ⟨w.heap.size, 2, none⟩ = _ := hB.cell 2
    have y3 : World.cell? W.drew ⟨w.heap.size, 3, none⟩ = _ := hB.cell 3
    refine bodyPost_ret (v := .tuple #[.agg #[.slice none 0 0, .slice none 0 0, .slice none 0 0, .slice none 0 0], .int .i64 s2.err]) (by simp [results, Try.results11, go_sem, y0, y1, y2, y3]) rfl ?_
    rw [HQ.out]
    exact ⟨none, none, none, none, 0, 0, 0, 0, rfl, noObj_is _, (HK5.out.past hk1 (fun q hq => by simp at hq; simp; omega)).drew⟩
  have HD2 : Hid (decB l = if s2.rest ≠ [] then (noObj, 4) else if (v : Int) ≠ Crc.int (Crc.go 0#32 (l.take (n - n1))) then (noObj, 6) else (o, 0)) := HDec.out.trans (if_neg (fun h => h he))
  have d0 : (s2.err != 0) = false := by simpa using he
  clear HDec
  by_cases hr : s2.rest = []
  case neg =>
    have HQ : Hid (decB l = (noObj, 4)) := HD2.out.trans (if_pos hr)
    have d1 : decide (0 < n2) = true := by
      simp only [decide_eq_true_eq]
      have := HN2.out
      have : s2.rest.length ≠ 0 := fun h => hr (List.eq_nil_of_length_eq_zero h)
      omega
    have HRes9 := HRes5
    clear he hr HD2
    go_wp2_with fail
    clear x0 x1 x2 x3 v0 v1 v2 v3
    obtain ⟨hB, hk1⟩ := arr4_set (v0 := .slice none 0 0) (v1 := .slice none 0 0) (v2 := .slice none 0 0) (v3 := .slice none 0 0) HRes9.out
    generalize World.setCell _ ⟨w.heap.size, 3, none⟩ _ = W at *
    have y0 : World.cell? W ⟨w.heap.size, 0, none⟩ = _ := hB.cell 0
    have y1 : World.cell? W ⟨w.heap.size, 1, none⟩ = _ := hB.cell 1
    have y2 : World.cell? W ⟨w.heap.size, 2, none⟩ = _ := hB.cell 2
    have y3 : World.cell? W ⟨w.heap.size, 3, none⟩ = _ := hB.cell 3
    refine bodyPost_ret (v := .tuple #[.agg #[.slice none 0 0, .slice none 0 0, .slice none 0 0, .slice none 0 0], .int .i64 4]) (by simp [results, Try.results11, go_sem, y0, y1, y2, y3]) rfl ?_
    rw [HQ.out]
    exact ⟨none, none, none, none, 0, 0, 0, 0, rfl, noObj_is _, HK5.out.past hk1 (fun q hq => by simp at hq; simp; omega)⟩
  have d1 : decide (0 < n2) = false := by
    simp only [decide_eq_false_iff_not]
    have := HN2.out
    rw [hr] at this
    simp at this
    omega
  have HD3 : Hid (decB l = if (v : Int) ≠ Crc.int (Crc.go 0#32 (l.take (n - n1))) then (noObj, 6) else (o, 0)) := HD2.out.trans (if_neg (fun h => h hr))
  have hcut : (l.take (n - n1)).length = n - n1 := by rw [List.length_take, HL.out]; omega
  have hrA : Rd w5 A (u8s (l.take (n - n1))) := by
    have := (HA.out.take (n - n1)).keep HK5.out
    simpa [u8s, List.map_take] using this
  have htn : ((n : Int) - (n1 : Int)).toNat = n - n1 := by omega
  have hcrc := crcSum_any (some ⟨w5.heap.size, 0, none⟩) 1 1 [l.take (n - n1)] (w5.heap.size + 1) (w5.alloc (.cells #[.slice A (n - n1) c] 22)) rfl (by omega) (by
    intro i hi
    match i, hi with
    | 0, _ => exact ⟨w5.heap.size, 0, A, c, l.take (n - n1), rfl, by omega, by rw [hcut]; exact (Blk.new w5 _ _).cell 0, rfl, ((Row.toNums (K := .u8) hrA).alloc (Nat.le_refl _) _).more (by omega), isByte_take HB.out _, by rw [hcut]; omega⟩)
  rw [show ([l.take (n - n1)].foldl Crc.go 0#32) = Crc.go 0#32 (l.take (n - n1)) from rfl] at hcrc
  have HA5 := Lib.hid ((Keeps.refl w5 []).alloc (.cells #[.slice A (n - n1) c] 22))
  have HRes9 := Lib.hid (HRes5.out.keep HA5.out (by simp))
  have HBx9 := Lib.hid (HBx5.out.keep HA5.out (by simp))
  have HOb9 := Lib.hid (HOb5.out.keep HA5.out)
  have HK9 := Lib.hid (HK5.out.trans HA5.out)
  have Hlow := Lib.hid hlow
  generalize hsum : Crc.int (Crc.go 0#32 (l.take (n - n1))) = sum at *
  have HCrc := Lib.hid hcrc
  clear hsum hcrc hrA he hr HD2 hcut hlow
  clear x0 x1 x2 x3 v0 v1 v2 v3
  have x0 := HRes9.out.frozen 0
  have x1 := HRes9.out.frozen 1
  have x2 := HRes9.out.frozen 2
  have x3 := HRes9.out.frozen 3
  have v0 := HRes9.out.cell 0
  have v1 := HRes9.out.cell 1
  have v2 := HRes9.out.cell 2
  have v3 := HRes9.out.cell 3
  have y0 := HBx9.out.cell 0
  have y1 := HBx9.out.cell 1
  have y2 := HBx9.out.cell 2
  have y3 := HBx9.out.cell 3
  by_cases hv2 : (v : Int) = sum
  · have HQ : Hid (decB l = (o, 0)) := HD3.out.trans (if_neg (fun h => h hv2))
    have d2 : ((v : Int) != sum) = false := by simpa using hv2
    clear hv2 HD3
    go_wp2_with (go_at_call 46; refine HCrc.out.mono ?_; rintro e w7 ⟨rfl, rfl⟩)
    clear y0 y1 y2 y3
    clear x0 x1 x2 x3 v0 v1 v2 v3
    obtain ⟨hB, hk1⟩ := arr4_set (v0 := .slice Aa na ca) (v1 := .slice Af nf cf) (v2 := .slice Ap np cp) (v3 := .slice Ac nc cc) HRes9.out
    generalize World.setCell _ ⟨w.heap.size, 3, none⟩ _ = W at *
    have y0 : World.cell? W ⟨w.heap.size, 0, none⟩ = _ := hB.cell 0
    have y1 : World.cell? W ⟨w.heap.size, 1, none⟩ = _ := hB.cell 1
    have y2 : World.cell? W ⟨w.heap.size, 2, none⟩ = _ := hB.cell 2
    have y3 : World.cell? W ⟨w.heap.size, 3, none⟩ = _ := hB.cell 3
    refine bodyPost_ret (v := .tuple #[.agg #[.slice Aa na ca, .slice Af nf cf, .slice Ap np cp, .slice Ac nc cc], .int .i64 0]) (by simp [results, Try.results11, go_sem, y0, y1, y2, y3]) rfl ?_
    rw [HQ.out]
    exact ⟨Aa, Af, Ap, Ac, ca, cf, cp, cc, by rw [Hna.out, Hnf.out, Hnp.out, Hnc.out], HOb9.out.keepOff hk1 Hlow.out (by simp; omega), HK9.out.past hk1 (fun q hq => by simp at hq; simp; omega)⟩
  · have HQ : Hid (decB l = (noObj, 6)) := HD3.out.trans (if_pos hv2)
    have d2 : ((v : Int) != sum) = true := by simpa using hv2
    clear hv2 HD3
    go_wp2_with (go_at_call 46; refine HCrc.out.mono ?_; rintro e w7 ⟨rfl, rfl⟩)
    clear y0 y1 y2 y3
    clear x0 x1 x2 x3 v0 v1 v2 v3
    obtain ⟨hB, hk1⟩ := arr4_set (v0 := .slice none 0 0) (v1 := .slice none 0 0) (v2 := .slice none 0 0) (v3 := .slice none 0 0) HRes9.out
    generalize World.setCell _ ⟨w.heap.size, 3, none⟩ _ = W at *
    have y0 : World.cell? W ⟨w.heap.size, 0, none⟩ = _ := hB.cell 0
    have y1 : World.cell? W ⟨w.heap.size, 1, none⟩ = _ := hB.cell 1
    have y2 : World.cell? W ⟨w.heap.size, 2, none⟩ = _ := hB.cell 2
    have y3 : World.cell? W ⟨w.heap.size, 3, none⟩ = _ := hB.cell 3
    refine bodyPost_ret (v := .tuple #[.agg #[.slice none 0 0, .slice none 0 0, .slice none 0 0, .slice none 0 0], .int .i64 6]) (by simp [results, Try.results11, go_sem, y0, y1, y2, y3]) rfl ?_
    rw [HQ.out]
    exact ⟨none, none, none, none, 0, 0, 0, 0, rfl, noObj_is _, HK9.out.past hk1 (fun q hq => by simp at hq; simp; omega)⟩
end Go.Proofs.Ytdcjiohbnnipdaa
