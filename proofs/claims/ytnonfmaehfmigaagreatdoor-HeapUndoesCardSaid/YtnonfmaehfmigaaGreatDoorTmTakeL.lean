/- The document's take: lists, names. -/
import Derived.Test.YtnonfmaehfmigaaGreatDoorTmTake
namespace Go.Proofs.YtnonfmaehfmigaaGreatDoor
open Go.RowKit

theorem TakeIs.none {l : Txt} {t : Tm} : TakeIs l t 0 none := ⟨fun _ => rfl, fun x hx => by cases hx⟩
/-- The byte behind n. -/
theorem at_rest {s : ByteArray} {k : Nat} (hk : k < s.size) : (s.data.toList.drop k).head? = some s[k] := by rw [List.head?_drop]; exact dat_at s k hk
theorem at_end {s : ByteArray} {k : Nat} (hk : s.size ≤ k) : (s.data.toList.drop k).head? = none := by
  rw [List.drop_eq_nil_of_le (by have : s.data.toList.length = s.size := rfl; omega)]
  rfl
theorem ext_list (s : ByteArray) (k : Nat) : (s.extract k s.size).data.toList = s.data.toList.drop k := by
  rw [piece_is, stB_list, List.take_of_length_le (show s.data.toList.length ≤ s.size from Nat.le_refl _)]
theorem ext_size (s : ByteArray) (k : Nat) : (s.extract k s.size).size = s.size - k := by
  have h : (s.extract k s.size).data.toList.length = (s.data.toList.drop k).length := by rw [ext_list]
  rw [List.length_drop] at h
  exact h

set_option maxRecDepth 100000 in
set_option maxHeartbeats 3200000 in
theorem take_list (s : ByteArray) (w : World) (p : Txt → Option (Tm × Txt)) (h : s.data.toList.head? = some 91) (hf : s.size ≤ 10000)
    (ih : ∀ (x : ByteArray) (w : World), x.size < s.size → Calls Tryz.prog 46 #[.string x] w (TakeDone w x.data.toList (p x.data.toList))) :
    Calls Tryz.prog 46 #[.string s] w (TakeDone w s.data.toList (listR p s.data.toList.tail)) := by
  have h3 := pos_of h
  have hsl : s.data.toList.length = s.size := rfl
  have d0 : s.toList.isEmpty = false := by rw [empty_size]; exact decide_eq_false (by omega)
  have e0 : s[0] = 91 := by have := head_at h3; rw [h] at this; injection this with this; exact this.symm
  have d1 : ((s[0].toNat : Int) == 88) = false := by rw [e0]; rfl
  have d2 : ((s[0].toNat : Int) == 91) = true := by rw [e0]; rfl
  have g1 : (1 : Int) ≤ (s.size : Int) := by omega
  have HB0 : Hid (Blk (w.alloc (.cells #[.int .i64 0, .int .i64 0, .string ⟨#[]⟩, .slice none 0 0] 24)) w.heap.size 24 #[.int .i64 0, .int .i64 0, .string ⟨#[]⟩, .slice none 0 0]) := Blk.new _ _ _
  have HK0 : Hid (Keeps w (w.alloc (.cells #[.int .i64 0, .int .i64 0, .string ⟨#[]⟩, .slice none 0 0] 24)) []) := (Keeps.refl w []).alloc _
  have ht1 : s.data.toList.tail = s.data.toList.drop 1 := List.drop_one.symm
  have hi1 := ih (s.extract 1 s.size) (w.alloc (.cells #[.int .i64 0, .int .i64 0, .string ⟨#[]⟩, .slice none 0 0] 24)) (by rw [ext_size]; omega)
  rw [ext_list] at hi1
  have HI1 := Lib.hid hi1
  have HI := Lib.hid ih
  rw [ht1]
  obtain ⟨R, hRe⟩ : ∃ R, listR p (s.data.toList.drop 1) = R := ⟨_, rfl⟩
  have HE : Hid (R = listR p (s.data.toList.drop 1)) := hRe.symm
  rw [hRe]
  have hb := HB0.out
  have zc0 := hb.cell 0
  have zf0 := hb.frozen 0
  have zc1 := hb.cell 1
  have zf1 := hb.frozen 1
  have zc2 := hb.cell 2
  have zf2 := hb.frozen 2
  have zc3 := hb.cell 3
  have zf3 := hb.frozen 3
  clear hb e0 h ih hi1 ht1 hRe
  unfold TakeDone at HI1 ⊢
  go_enter Tryz.func46, Tryz.ntmps46
  go_wp2_with fail
  refine HI1.out.mono ?_
  rintro e w1 ⟨t1, v1, n1, rfl, ht1, k1, i1⟩
  have HT1 := Lib.hid (ht1.keep ((Keeps.refl w1 []).alloc (.cells #[.int .i64 v1.k, .int .i64 v1.n, .string v1.s, .slice v1.A v1.len v1.c] 24)))
  have HG1 : Hid (Blk (w1.alloc (.cells #[.int .i64 v1.k, .int .i64 v1.n, .string v1.s, .slice v1.A v1.len v1.c] 24)) w1.heap.size 24 #[.int .i64 v1.k, .int .i64 v1.n, .string v1.s, .slice v1.A v1.len v1.c]) := Blk.new _ _ _
  have HB1 := Lib.hid ((HB0.out.keep k1 (by simp)).alloc (.cells #[.int .i64 v1.k, .int .i64 v1.n, .string v1.s, .slice v1.A v1.len v1.c] 24))
  have HK1 := Lib.hid ((HK0.out.trans k1).alloc (.cells #[.int .i64 v1.k, .int .i64 v1.n, .string v1.s, .slice v1.A v1.len v1.c] 24))
  have HIS1 := Lib.hid i1
  have HZ1 : Hid (w.heap.size < w1.heap.size) := by have := k1.size; simp at this; show _ < _; omega
  clear zc0 zc1 zc2 zc3 zf0 zf1 zf2 zf3
  have hb := HB1.out
  have zc0 := hb.cell 0
  have zf0 := hb.frozen 0
  have zc1 := hb.cell 1
  have zf1 := hb.frozen 1
  have zc2 := hb.cell 2
  have zf2 := hb.frozen 2
  have zc3 := hb.cell 3
  have zf3 := hb.frozen 3
  unfold tvV
  clear ht1 k1 hb HB0 HK0 HI1
  cases hp1 : p (s.data.toList.drop 1) with
  | none =>
    obtain rfl : n1 = 0 := by have := i1.no hp1; exact this
    have hR : R = none := by rw [HE.out, listR, hp1]; rfl
    have HD := Lib.hid (TakeDone.none4 (l := s.data.toList) HK1.out (Nat.le_refl _) (.int .i64 0) (.int .i64 0) (.string ⟨#[]⟩) (.slice none 0 0))
    rw [← hR] at HD
    unfold TakeDone at HD
    clear hR i1 hp1
    go_wp2_with fail
    exact bodyPost_ret (v := .tuple #[.agg #[.int .i64 0, .int .i64 0, .string ⟨#[]⟩, .slice none 0 0], .int .i64 0]) (by simp [results, Tryz.results46, go_sem, *]) rfl HD.out
  | some x =>
    obtain ⟨hx1, hn1, hl1, hd1⟩ := i1.yes x hp1
    rw [List.drop_drop] at hd1
    have hlen1 : n1 + x.2.length = s.size - 1 := by rw [hl1, List.length_drop]; rfl
    have m0 : ((n1 : Int) == 0) = false := by simp; omega
    by_cases hge : s.size ≤ 1 + n1
    · have m1 : decide ((s.size : Int) ≤ 1 + (n1 : Int)) = true := by simp; omega
      have hR : R = none := by rw [HE.out, listR, hp1, Option.bind_some, if_neg]; rw [hd1, at_end (by omega)]; simp
      have HD := Lib.hid (TakeDone.none4 (l := s.data.toList) HK1.out (Nat.le_refl _) (.int .i64 0) (.int .i64 0) (.string ⟨#[]⟩) (.slice none 0 0))
      rw [← hR] at HD
      unfold TakeDone at HD
      clear hR i1 hp1 hx1 hd1 hl1
      go_wp2_with fail
      exact bodyPost_ret (v := .tuple #[.agg #[.int .i64 0, .int .i64 0, .string ⟨#[]⟩, .slice none 0 0], .int .i64 0]) (by simp [results, Tryz.results46, go_sem, *]) rfl HD.out
    have hlt1 : 1 + n1 < s.size := by omega
    have m1 : decide ((s.size : Int) ≤ 1 + (n1 : Int)) = false := by simp; omega
    have hat := at_rest hlt1
    rw [← hd1] at hat
    by_cases hc1 : s[1 + n1] = 124
    case neg =>
      have m2 : ((s[1 + n1].toNat : Int) == 124) = false := by
        have : s[1 + n1].toNat ≠ 124 := fun h => hc1 (UInt8.toNat_inj.1 (by simpa using h))
        simp; omega
      have hR : R = none := by rw [HE.out, listR, hp1, Option.bind_some, if_neg]; rw [hat]; simpa using hc1
      have HD := Lib.hid (TakeDone.none4 (l := s.data.toList) HK1.out (Nat.le_refl _) (.int .i64 0) (.int .i64 0) (.string ⟨#[]⟩) (.slice none 0 0))
      rw [← hR] at HD
      unfold TakeDone at HD
      have b1 : (0 : Int) ≤ 1 + (n1 : Int) := by omega
      have b2 : 1 + (n1 : Int) < (s.size : Int) := by omega
      clear hR i1 hp1 hx1 hd1 hl1 hat hc1 hge
      go_wp2_with fail
      exact bodyPost_ret (v := .tuple #[.agg #[.int .i64 0, .int .i64 0, .string ⟨#[]⟩, .slice none 0 0], .int .i64 0]) (by simp [results, Tryz.results46, go_sem, *]) rfl HD.out
    have m2 : ((s[1 + n1].toNat : Int) == 124) = true := by rw [hc1]; rfl
    have hh1 : x.2.head? = some 124 := by rw [hat, hc1]
    have htl : x.2.tail = s.data.toList.drop (2 + n1) := by rw [hd1, List.tail_drop, show 1 + n1 + 1 = 2 + n1 by omega]
    have hi2 := fun w' => HI.out (s.extract (2 + n1) s.size) w' (by rw [ext_size]; omega)
    rw [ext_list, ← htl] at hi2
    have HI2 := Lib.hid hi2
    have hR2 : R = (p x.2.tail).bind fun y => if y.2.head? = some 93 then some (.mk 3 0 ⟨#[]⟩ [x.1, y.1], y.2.tail) else none := by rw [HE.out, listR, hp1, Option.bind_some, if_pos hh1]
    have HR2 := Lib.hid hR2
    have HTL := Lib.hid htl
    have HX1 := Lib.hid hx1
    have b1 : (0 : Int) ≤ 1 + (n1 : Int) := by omega
    have b2 : 1 + (n1 : Int) < (s.size : Int) := by omega
    have b3 : (0 : Int) ≤ 2 + (n1 : Int) := by omega
    have b4 : 2 + (n1 : Int) ≤ (s.size : Int) := by omega
    unfold TakeDone at HI2
    clear hR2 i1 hp1 hx1 hd1 hl1 hat hc1 hge hi2 htl hh1
    go_wp2_with fail
    refine (HI2.out _).mono ?_
    rintro e w2 ⟨t2, v2, n2, rfl, ht2, k2, i2⟩
    have HZ2 : Hid (w1.heap.size < w2.heap.size) := by have := k2.size; simp at this; show _ < _; omega
    have K2 := k2.alloc (.cells #[.int .i64 v2.k, .int .i64 v2.n, .string v2.s, .slice v2.A v2.len v2.c] 24)
    have HB2 := Lib.hid (HB1.out.keep K2 (by simp))
    have HG2 := Lib.hid (HG1.out.keep K2 (by simp))
    have HH2 : Hid (Blk (w2.alloc (.cells #[.int .i64 v2.k, .int .i64 v2.n, .string v2.s, .slice v2.A v2.len v2.c] 24)) w2.heap.size 24 #[.int .i64 v2.k, .int .i64 v2.n, .string v2.s, .slice v2.A v2.len v2.c]) := Blk.new _ _ _
    have HT2 := Lib.hid (HT1.out.keep K2)
    have HU2 := Lib.hid (ht2.keep ((Keeps.refl w2 []).alloc (.cells #[.int .i64 v2.k, .int .i64 v2.n, .string v2.s, .slice v2.A v2.len v2.c] 24)))
    have HK2 := Lib.hid (HK1.out.trans K2)
    have HS2 := Lib.hid i2
    unfold tvV
    clear zc0 zc1 zc2 zc3 zf0 zf1 zf2 zf3
    have hb := HB2.out
    have zc0 := hb.cell 0
    have zf0 := hb.frozen 0
    have zc1 := hb.cell 1
    have zf1 := hb.frozen 1
    have zc2 := hb.cell 2
    have zf2 := hb.frozen 2
    have zc3 := hb.cell 3
    have zf3 := hb.frozen 3
    clear hb ht2 k2 K2 HI2
    cases hp2 : p x.2.tail with
    | none =>
      obtain rfl : n2 = 0 := by have := i2.no hp2; exact this
      have hR : R = none := by rw [HR2.out, hp2]; rfl
      have HD := Lib.hid (TakeDone.none4 (l := s.data.toList) HK2.out (Nat.le_refl _) (.int .i64 0) (.int .i64 0) (.string ⟨#[]⟩) (.slice none 0 0))
      rw [← hR] at HD
      unfold TakeDone at HD
      clear hR i2 hp2
      go_wp2_with fail
      exact bodyPost_ret (v := .tuple #[.agg #[.int .i64 0, .int .i64 0, .string ⟨#[]⟩, .slice none 0 0], .int .i64 0]) (by simp [results, Tryz.results46, go_sem, *]) rfl HD.out
    | some y =>
      obtain ⟨hy1, hn2, hl2, hd2⟩ := i2.yes y hp2
      rw [HTL.out, List.drop_drop] at hd2
      rw [HTL.out, List.length_drop] at hl2
      have hl2' : n2 + y.2.length = s.size - (2 + n1) := hl2
      have p0 : ((n2 : Int) == 0) = false := by simp; omega
      by_cases hge2 : s.size ≤ 2 + n1 + n2
      · have p1 : decide ((s.size : Int) ≤ 2 + (n1 : Int) + (n2 : Int)) = true := by simp; omega
        have hR : R = none := by rw [HR2.out, hp2, Option.bind_some, if_neg]; rw [hd2, at_end (by omega)]; simp
        have HD := Lib.hid (TakeDone.none4 (l := s.data.toList) HK2.out (Nat.le_refl _) (.int .i64 0) (.int .i64 0) (.string ⟨#[]⟩) (.slice none 0 0))
        rw [← hR] at HD
        unfold TakeDone at HD
        clear hR i2 hp2 hy1 hl2 hd2
        go_wp2_with fail
        exact bodyPost_ret (v := .tuple #[.agg #[.int .i64 0, .int .i64 0, .string ⟨#[]⟩, .slice none 0 0], .int .i64 0]) (by simp [results, Tryz.results46, go_sem, *]) rfl HD.out
      have hlt2 : 2 + n1 + n2 < s.size := by omega
      have p1 : decide ((s.size : Int) ≤ 2 + (n1 : Int) + (n2 : Int)) = false := by simp; omega
      have hat2 := at_rest hlt2
      rw [← hd2] at hat2
      have b5 : (0 : Int) ≤ 2 + (n1 : Int) + (n2 : Int) := by omega
      have b6 : 2 + (n1 : Int) + (n2 : Int) < (s.size : Int) := by omega
      by_cases hc2 : s[2 + n1 + n2] = 93
      case neg =>
        have p2 : ((s[2 + n1 + n2].toNat : Int) == 93) = false := by
          have : s[2 + n1 + n2].toNat ≠ 93 := fun h => hc2 (UInt8.toNat_inj.1 (by simpa using h))
          simp; omega
        have hR : R = none := by rw [HR2.out, hp2, Option.bind_some, if_neg]; rw [hat2]; simpa using hc2
        have HD := Lib.hid (TakeDone.none4 (l := s.data.toList) HK2.out (Nat.le_refl _) (.int .i64 0) (.int .i64 0) (.string ⟨#[]⟩) (.slice none 0 0))
        rw [← hR] at HD
        unfold TakeDone at HD
        clear hR i2 hp2 hy1 hl2 hd2 hat2 hc2 hge2
        go_wp2_with fail
        exact bodyPost_ret (v := .tuple #[.agg #[.int .i64 0, .int .i64 0, .string ⟨#[]⟩, .slice none 0 0], .int .i64 0]) (by simp [results, Tryz.results46, go_sem, *]) rfl HD.out
      have p2 : ((s[2 + n1 + n2].toNat : Int) == 93) = true := by rw [hc2]; rfl
      have hR : R = some (.mk 3 0 ⟨#[]⟩ [x.1, y.1], y.2.tail) := by rw [HR2.out, hp2, Option.bind_some, if_pos (by rw [hat2, hc2])]
      have hTI : TakeIs s.data.toList (.mk 3 0 ⟨#[]⟩ [t1, t2]) (3 + n1 + n2) R := by
        refine ⟨fun h => by rw [hR] at h; (cases h), fun z hz => ?_⟩
        rw [hR] at hz
        cases hz
        refine ⟨by rw [HX1.out, hy1], by omega, ?_, ?_⟩
        · rw [List.length_tail]
          show _ = s.size
          omega
        · rw [hd2, List.tail_drop, show 2 + n1 + n2 + 1 = 3 + n1 + n2 by omega]
      have hg := HG2.out
      have hh := HH2.out
      have uc0 := hg.cell 0
      have uf0 := hg.frozen 0
      have uc1 := hg.cell 1
      have uf1 := hg.frozen 1
      have uc2 := hg.cell 2
      have uf2 := hg.frozen 2
      have uc3 := hg.cell 3
      have uf3 := hg.frozen 3
      have yc0 := hh.cell 0
      have yf0 := hh.frozen 0
      have yc1 := hh.cell 1
      have yf1 := hh.frozen 1
      have yc2 := hh.cell 2
      have yf2 := hh.frozen 2
      have yc3 := hh.cell 3
      have yf3 := hh.frozen 3
      have hd := TakeDone.hand (w := w) (g := w.heap.size) (pair_tr (S := fun b => w.heap.size ≤ b ∧ b ≠ w.heap.size) (HT2.out.mono fun b hb => by simp at hb; omega) (HU2.out.mono fun b hb => by have := HZ1.out; have := HZ2.out; simp at hb; omega) (by have := HZ1.out; have := HZ2.out; simp; omega) 24) (HK2.out.alloc _) hTI (Nat.le_refl _) (.int .i64 3) (.int .i64 0) (.string ⟨#[]⟩) (.slice (some ⟨(w2.alloc (.cells #[.int .i64 v2.k, .int .i64 v2.n, .string v2.s, .slice v2.A v2.len v2.c] 24)).heap.size, 0, none⟩) 2 2)
      rw [show ((3 + n1 + n2 : Nat) : Int) = 3 + (n1 : Int) + (n2 : Int) by omega] at hd
      clear zc0 zc1 zc2 zc3 zf0 zf1 zf2 zf3
      have hb := HB2.out.alloc (.cells #[.int .i64 v1.k, .int .i64 v1.n, .string v1.s, .slice v1.A v1.len v1.c, .int .i64 v2.k, .int .i64 v2.n, .string v2.s, .slice v2.A v2.len v2.c] 24)
      have zc0 := hb.cell 0
      have zf0 := hb.frozen 0
      have zc1 := hb.cell 1
      have zf1 := hb.frozen 1
      have zc2 := hb.cell 2
      have zf2 := hb.frozen 2
      have zc3 := hb.cell 3
      have zf3 := hb.frozen 3
      unfold TakeDone at hd
      simp only [World.size_alloc] at hd
      have HD := Lib.hid hd
      clear hR i2 hp2 hy1 hl2 hd2 hat2 hc2 hge2 hTI hd hg hh hb
      go_wp2_with fail
      exact bodyPost_ret (v := .tuple #[.agg #[.int .i64 3, .int .i64 0, .string ⟨#[]⟩, .slice (some ⟨w2.heap.size + 1, 0, none⟩) 2 2], .int .i64 (3 + (n1 : Int) + (n2 : Int))]) (by simp [results, Tryz.results46, go_sem, *]) rfl HD.out
end Go.Proofs.YtnonfmaehfmigaaGreatDoor
