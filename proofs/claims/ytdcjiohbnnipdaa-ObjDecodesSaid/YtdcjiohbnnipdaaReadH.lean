/- The walk of obj.reader's head. Printed by gen_readh.py. -/
import Derived.Test.YtdcjiohbnnipdaaReadI
namespace Go.Proofs.Ytdcjiohbnnipdaa
open Go.RowKit
attribute [local irreducible] takeR numR nameR kindsOf nameOf bigB

def HeadDone (w : World) (g B : Nat) (h : HdR) (e : Ending) (w' : World) : Prop := e = .returned (.agg #[.int .i64 h.na, .int .i64 h.nf, .int .i64 h.np, .int .i64 h.nc]) ∧ RdrAt w' g B h.s ∧ Keeps w w' [g]
theorem magic_at (j : Nat) (hj : j < 5) : ∃ x : Int, magicL[j]? = some x ∧ 0 ≤ x ∧ x < 256 := by
  match j, hj with
  | 0, _ => exact ⟨82, rfl, by decide, by decide⟩
  | 1, _ => exact ⟨83, rfl, by decide, by decide⟩
  | 2, _ => exact ⟨76, rfl, by decide, by decide⟩
  | 3, _ => exact ⟨86, rfl, by decide, by decide⟩
  | 4, _ => exact ⟨1, rfl, by decide, by decide⟩
theorem magic_cell {j : Nat} {x : Int} (h : magicL[j]? = some x) : (#[.int .u8 82, .int .u8 83, .int .u8 76, .int .u8 86, .int .u8 1] : Array Value)[j]? = some (.int .u8 x) := by
  match j, h with
  | 0, h => injection h with h; subst h; rfl
  | 1, h => injection h with h; subst h; rfl
  | 2, h => injection h with h; subst h; rfl
  | 3, h => injection h with h; subst h; rfl
  | 4, h => injection h with h; subst h; rfl
  | j + 5, h => simp [magicL] at h
theorem magic_step {j : Nat} {x : Int} (h : magicL[j]? = some x) (s : RdS) : (magicL.take (j + 1)).foldl (fun s c => markR c s) s = markR x ((magicL.take j).foldl (fun s c => markR c s) s) := by
  rw [List.take_add_one, h, List.foldl_append]
  rfl
theorem arr4_set {w : World} {g : Nat} {t : TypeId} {z0 z1 z2 z3 v0 v1 v2 v3 : Value} (h : Blk w g t #[z0, z1, z2, z3]) :
    Blk ((((w.setCell ⟨g, 0, none⟩ v0).setCell ⟨g, 1, none⟩ v1).setCell ⟨g, 2, none⟩ v2).setCell ⟨g, 3, none⟩ v3) g t #[v0, v1, v2, v3] ∧ Keeps w ((((w.setCell ⟨g, 0, none⟩ v0).setCell ⟨g, 1, none⟩ v1).setCell ⟨g, 2, none⟩ v2).setCell ⟨g, 3, none⟩ v3) [g] :=
  ⟨(((h.set_ 0 v0).set_ 1 v1).set_ 2 v2).set_ 3 v3, ((((Keeps.refl w [g]).setCell (.inl (by simp)) _).setCell (.inl (by simp)) _).setCell (.inl (by simp)) _).setCell (.inl (by simp)) _⟩

theorem rd_one {w : World} {A : Option Addr} {y : Int} (h : Rd w A (u8s [y])) : ∃ b off, A = some ⟨b, off, none⟩ ∧ w.cell? ⟨b, off, none⟩ = some (.int .u8 y) := by
  obtain ⟨b, off, v, e, hb, hc, hv⟩ := h 0 (by simp [u8s])
  injection hv with hv
  subst hv
  exact ⟨b, off, e, hc⟩
theorem RdrAt.frz {w : World} {g B : Nat} {s : RdS} (h : RdrAt w g B s) : w.frozen? ⟨g, 1, none⟩ = false := by
  obtain ⟨A, n, c, h1, _⟩ := h.ex
  exact h1.frozen 1

set_option maxRecDepth 100000 in
set_option maxHeartbeats 6400000 in
theorem rhead_any (w : World) (g B : Nat) (s : RdS) (h : RdrAt w g B s) : Calls Try.prog 93 #[.pointer (some ⟨g, 0, none⟩)] w (HeadDone w g B (headR s)) := by
  have hlt := h.lt
  have hle := h.le
  have hh := h.info
  have kc := fun (w : World) (C : Array Value) (n c : Nat) => Lib.run_convert_bytes_const (P := Try.prog) w 22 5 C n c Try.underlying22 Try.underlying5
  have kc1 := kc (w.alloc (.cells #[.int .i64 0, .int .i64 0, .int .i64 0, .int .i64 0] 108)) #[.int .u8 82, .int .u8 83, .int .u8 76, .int .u8 86, .int .u8 1] 5 5
  rw [show (w.alloc (.cells #[.int .i64 0, .int .i64 0, .int .i64 0, .int .i64 0] 108)).heap.size = w.heap.size + 1 by simp] at kc1
  obtain ⟨wA, hwA⟩ : ∃ wA, (w.alloc (.cells #[.int .i64 0, .int .i64 0, .int .i64 0, .int .i64 0] 108)).alloc (.cells #[.int .u8 82, .int .u8 83, .int .u8 76, .int .u8 86, .int .u8 1] 5 (5, 6)) = wA := ⟨_, rfl⟩
  have kA : Keeps w wA [] := by rw [← hwA]; exact ((Keeps.refl w []).alloc _).alloc _
  have HR0 : Hid (Blk wA w.heap.size 108 #[.int .i64 0, .int .i64 0, .int .i64 0, .int .i64 0]) := by show Blk _ _ _ _; rw [← hwA]; exact (Blk.new w _ _).alloc _
  have HM0 : Hid (∀ (j : Nat) (x : Int), magicL[j]? = some x → wA.cell? ⟨w.heap.size + 1, j, none⟩ = some (.int .u8 x)) := by
    intro j x hx
    rw [← hwA]
    have := cell_lit (w.alloc (.cells #[.int .i64 0, .int .i64 0, .int .i64 0, .int .i64 0] 108)) (C := #[.int .u8 82, .int .u8 83, .int .u8 76, .int .u8 86, .int .u8 1]) 5 (5, 6) (magic_cell hx)
    rw [show (w.alloc (.cells #[.int .i64 0, .int .i64 0, .int .i64 0, .int .i64 0] 108)).heap.size = w.heap.size + 1 by simp] at this
    exact this
  have HS0 := Lib.hid (h.keep0 kA)
  have HK0 := Lib.hid kA
  have hsA : wA.heap.size = w.heap.size + 2 := by rw [← hwA]; simp
  clear h kA kc
  go_enter Try.func93, Try.ntmps93
  go_wp2_with fail
  clear kc1
  go_loopw [4, 5, 10] (fun v4 v5 i wr => ∃ j : Nat, j ≤ 5 ∧ i = .int .i64 j ∧ RdrAt wr g B ((magicL.take j).foldl (fun s c => markR c s) s) ∧ Keeps wA wr [g]) (fun _ _ i _ => 5 - (intOf i).toNat)
  case atStart => exact ⟨0, by omega, rfl, HS0.out, Keeps.refl _ _⟩
  case round =>
    clear HS0
    obtain ⟨j, hj, rfl, hs, hk⟩ := hrel
    have HS := Lib.hid hs
    have HK := Lib.hid hk
    clear hs hk
    by_cases hlj : j < 5
    · obtain ⟨x, hx, x0, x1⟩ := magic_at j hlj
      have HStep := Lib.hid (magic_step hx s)
      have q0 := (HK.out.cell (p := ⟨w.heap.size + 1, j, none⟩) (by simp; omega) (by simp; omega)).trans (HM0.out j x hx)
      obtain ⟨sj, hsj⟩ : ∃ sj, (magicL.take j).foldl (fun s c => markR c s) s = sj := ⟨_, rfl⟩
      rw [hsj] at HS HStep
      have HMk : Hid (markR x sj = if (takeR 1 sj).1.length = 1 ∧ (takeR 1 sj).1.getD 0 0 ≠ x then ⟨(takeR 1 sj).2.rest, 5⟩ else (takeR 1 sj).2) := rfl
      have HT := Lib.hid (take_any 1 wr g B sj HS.out)
      have hln := takeR_len 1 sj
      have hsz := HK.out.size
      generalize takeR 1 sj = r at *
      obtain ⟨l, s1⟩ := r
      have b0 : (0 : Int) ≤ (j : Int) := Int.natCast_nonneg _
      have b1 : (j : Int) < 5 := by omega
      clear hx hsj
      match l, hln, HT, HMk with
      | [], _, HT, HMk =>
        have HMm : Hid (markR x sj = s1) := HMk.out
        clear HMk
        go_wp2_with (go_at_call 96; refine HT.out.mono ?_; rintro e w1 ⟨A, c, rfl, hrd, hby, hst, kk⟩; have HST := Lib.hid hst; have HKK := Lib.hid kk; clear q0 hst kk hrd hby)
        go_roundw
        case rel => exact ⟨j + 1, by omega, by go_num, by rw [HStep.out, HMm.out]; exact HST.out, HK.out.trans HKK.out⟩
        case measure => simp [intOf]; omega
      | [y], _, HT, HMk =>
        by_cases hy : y = x
        · have HMm : Hid (markR x sj = s1) := HMk.out.trans (if_neg (fun h => h.2 hy))
          have dy : (y != x) = false := by simpa using hy
          clear HMk hy
          go_wp2_with (go_at_call 96; refine HT.out.mono ?_; rintro e w1 ⟨A, c, rfl, hrd, hby, hst, kk⟩; have HST := Lib.hid hst; have HKK := Lib.hid kk; obtain ⟨b, off, hA, hc⟩ := rd_one hrd; subst hA; clear q0 hst kk hrd hby)
          go_roundw
          case rel => exact ⟨j + 1, by omega, by go_num, by rw [HStep.out, HMm.out]; exact HST.out, HK.out.trans HKK.out⟩
          case measure => simp [intOf]; omega
        · have HMm : Hid (markR x sj = ⟨s1.rest, 5⟩) := HMk.out.trans (if_pos ⟨rfl, hy⟩)
          have dy : (y != x) = true := by simpa using hy
          clear HMk hy
          go_wp2_with (go_at_call 96; refine HT.out.mono ?_; rintro e w1 ⟨A, c, rfl, hrd, hby, hst, kk⟩; have HST := Lib.hid hst; have HKK := Lib.hid kk; obtain ⟨b, off, hA, hc⟩ := rd_one hrd; subst hA; have q2 := HST.out.err; have f2 := HST.out.frz; clear q0 hst kk hrd hby)
          go_roundw
          case rel => exact ⟨j + 1, by omega, by go_num, by rw [HStep.out, HMm.out]; exact HST.out.set 5, (HK.out.trans HKK.out).setCell (.inl (by simp)) _⟩
          case measure => simp [intOf]; omega
      | a :: b :: l, h, _, _ => exact absurd h (by simp)
    · obtain rfl : j = 5 := by omega
      have HS5 : Hid (RdrAt wr g B (magicR s)) := HS.out
      clear HS hlj
      have HNum := Lib.hid (fun wz sz h => rnum_any 2 (by omega) wz g B sz h)
      have hdef : Hid (headR s = ⟨(numR 2 (magicR s)).1, (numR 2 (numR 2 (magicR s)).2).1, (numR 2 (numR 2 (numR 2 (magicR s)).2).2).1, (numR 2 (numR 2 (numR 2 (numR 2 (magicR s)).2).2).2).1, fullR (numR 2 (magicR s)).1 (numR 2 (numR 2 (magicR s)).2).1 (numR 2 (numR 2 (numR 2 (magicR s)).2).2).1 (numR 2 (numR 2 (numR 2 (numR 2 (magicR s)).2).2).2).1 (numR 2 (numR 2 (numR 2 (numR 2 (magicR s)).2).2).2).2⟩) := rfl
      generalize magicR s = s0 at *
      have HN1 := Lib.hid (HNum.out wr s0 HS5.out)
      obtain ⟨⟨na, s1⟩, hr1⟩ : ∃ r, numR 2 s0 = r := ⟨_, rfl⟩
      rw [hr1] at hdef HN1
      obtain ⟨⟨nf, s2⟩, hr2⟩ : ∃ r, numR 2 s1 = r := ⟨_, rfl⟩
      simp only at hdef
      rw [hr2] at hdef
      obtain ⟨⟨np, s3⟩, hr3⟩ : ∃ r, numR 2 s2 = r := ⟨_, rfl⟩
      simp only at hdef
      rw [hr3] at hdef
      obtain ⟨⟨nc, s4⟩, hr4⟩ : ∃ r, numR 2 s3 = r := ⟨_, rfl⟩
      simp only at hdef
      rw [hr4] at hdef
      simp only at hdef HN1
      have HR2 := Lib.hid hr2
      have HR3 := Lib.hid hr3
      have HR4 := Lib.hid hr4
      have HHd := Lib.hid hdef.out
      clear hr1 hr2 hr3 hr4 hdef HM0
      go_wp2_with fail
      refine HN1.out.mono ?_
      rintro e w1 ⟨rfl, h1, k1⟩
      have HN2 := Lib.hid (HNum.out w1 s1 h1)
      rw [HR2.out] at HN2
      have HK1 := Lib.hid (HK.out.trans k1)
      clear h1 k1
      go_wp2_with fail
      refine HN2.out.mono ?_
      rintro e w2 ⟨rfl, h1, k1⟩
      have HN3 := Lib.hid (HNum.out w2 s2 h1)
      rw [HR3.out] at HN3
      have HK2 := Lib.hid (HK1.out.trans k1)
      clear h1 k1
      go_wp2_with fail
      refine HN3.out.mono ?_
      rintro e w3 ⟨rfl, h1, k1⟩
      have HN4 := Lib.hid (HNum.out w3 s3 h1)
      rw [HR4.out] at HN4
      have HK3 := Lib.hid (HK2.out.trans k1)
      clear h1 k1
      go_wp2_with fail
      refine HN4.out.mono ?_
      rintro e w4 ⟨rfl, h1, k1⟩
      have hs4 := k1.size
      have k4 := HK3.out.trans k1
      have HK4 := Lib.hid k4
      have hsz4 := k4.size
      have HR5 := Lib.hid ((HR0.out.keep k4 (by simp; omega)).alloc (.cells #[.int .i64 na, .int .i64 nf, .int .i64 np, .int .i64 nc] 108))
      have HY5 : Hid (Blk (w4.alloc (.cells #[.int .i64 na, .int .i64 nf, .int .i64 np, .int .i64 nc] 108)) w4.heap.size 108 #[.int .i64 na, .int .i64 nf, .int .i64 np, .int .i64 nc]) := Blk.new w4 _ _
      have HS5 := Lib.hid (h1.keep0 ((Keeps.refl w4 []).alloc (.cells #[.int .i64 na, .int .i64 nf, .int .i64 np, .int .i64 nc] 108)))
      have HK5 := Lib.hid (((HK0.out.to_ [g]).trans k4).alloc (.cells #[.int .i64 na, .int .i64 nf, .int .i64 np, .int .i64 nc] 108))
      have q1 := HS5.out.err
      have f1 := HS5.out.frz
      clear h1 k1 k4
      have hbig := big_any na nf np nc
      have HBig : Hid True := trivial
      by_cases he : s4.err = 0
      · have d0 : (s4.err == 0) = true := by simpa using he
        cases hb : bigB na nf np nc with
        | true =>
          rw [hb] at hbig
          have HBig := Lib.hid hbig
          have HHs : Hid ((headR s).s = ⟨s4.rest, 2⟩) := by show _ = _; rw [HHd.out]; exact if_pos ⟨he, hb⟩
          clear he hb hbig
          have HY9 := Lib.hid (HY5.out.far (p := ⟨g, 1, none⟩) (by simp; omega) (.int .i64 2))
          have HR9 := Lib.hid (HR5.out.far (p := ⟨g, 1, none⟩) (by simp; omega) (.int .i64 2))
          have HS9 := Lib.hid (HS5.out.set 2)
          have HK9 := Lib.hid (HK5.out.setCell (p := ⟨g, 1, none⟩) (.inl (by simp)) (.int .i64 2))
          clear HS5 HK5 HR5 HY5
          have y0 := HY9.out.cell 0
          have y1 := HY9.out.cell 1
          have y2 := HY9.out.cell 2
          have y3 := HY9.out.cell 3
          have x0 := HR9.out.frozen 0
          have x1 := HR9.out.frozen 1
          have x2 := HR9.out.frozen 2
          have x3 := HR9.out.frozen 3
          have v0 := HR9.out.cell 0
          have v1 := HR9.out.cell 1
          have v2 := HR9.out.cell 2
          have v3 := HR9.out.cell 3
          go_wp2_with (go_at_call 60; refine (HBig.out _).mono ?_; rintro e w5 ⟨rfl, rfl⟩)
          clear y0 y1 y2 y3 x0 x1 x2 x3 v0 v1 v2 v3 q1 f1
          obtain ⟨hB, hk1⟩ := arr4_set (v0 := .int .i64 na) (v1 := .int .i64 nf) (v2 := .int .i64 np) (v3 := .int .i64 nc) HR9.out
          generalize World.setCell _ ⟨w.heap.size, 3, none⟩ _ = W at *
          have y0 := hB.cell 0
          have y1 := hB.cell 1
          have y2 := hB.cell 2
          have y3 := hB.cell 3
          refine bodyPost_ret (v := .agg #[.int .i64 na, .int .i64 nf, .int .i64 np, .int .i64 nc]) (by simp [results, Try.results93, go_sem, y0, y1, y2, y3]) rfl ⟨?_, ?_, ?_⟩
          · rw [HHd.out]
          · rw [HHs.out]; exact HS9.out.keep hk1 (fun q hq => by simp at hq; omega)
          · exact HK9.out.past hk1 (fun q hq => by simp at hq; simp; omega)
        | false =>
          rw [hb] at hbig
          have HBig := Lib.hid hbig
          have HHs : Hid ((headR s).s = s4) := by show _ = _; rw [HHd.out]; exact if_neg (fun h => by rw [hb] at h; cases h.2)
          clear he hb hbig
          have HY9 := HY5
          have HR9 := HR5
          have HS9 := HS5
          have HK9 := HK5
          clear HS5 HK5 HR5 HY5
          have y0 := HY9.out.cell 0
          have y1 := HY9.out.cell 1
          have y2 := HY9.out.cell 2
          have y3 := HY9.out.cell 3
          have x0 := HR9.out.frozen 0
          have x1 := HR9.out.frozen 1
          have x2 := HR9.out.frozen 2
          have x3 := HR9.out.frozen 3
          have v0 := HR9.out.cell 0
          have v1 := HR9.out.cell 1
          have v2 := HR9.out.cell 2
          have v3 := HR9.out.cell 3
          go_wp2_with (go_at_call 60; refine (HBig.out _).mono ?_; rintro e w5 ⟨rfl, rfl⟩)
          clear y0 y1 y2 y3 x0 x1 x2 x3 v0 v1 v2 v3 q1 f1
          obtain ⟨hB, hk1⟩ := arr4_set (v0 := .int .i64 na) (v1 := .int .i64 nf) (v2 := .int .i64 np) (v3 := .int .i64 nc) HR9.out
          generalize World.setCell _ ⟨w.heap.size, 3, none⟩ _ = W at *
          have y0 := hB.cell 0
          have y1 := hB.cell 1
          have y2 := hB.cell 2
          have y3 := hB.cell 3
          refine bodyPost_ret (v := .agg #[.int .i64 na, .int .i64 nf, .int .i64 np, .int .i64 nc]) (by simp [results, Try.results93, go_sem, y0, y1, y2, y3]) rfl ⟨?_, ?_, ?_⟩
          · rw [HHd.out]
          · rw [HHs.out]; exact HS9.out.keep hk1 (fun q hq => by simp at hq; omega)
          · exact HK9.out.past hk1 (fun q hq => by simp at hq; simp; omega)
      · have d0 : (s4.err == 0) = false := by simpa using he
        have HHs : Hid ((headR s).s = s4) := by show _ = _; rw [HHd.out]; exact if_neg (fun h => he h.1)
        clear he hbig
        have HY9 := HY5
        have HR9 := HR5
        have HS9 := HS5
        have HK9 := HK5
        clear HS5 HK5 HR5 HY5
        have y0 := HY9.out.cell 0
        have y1 := HY9.out.cell 1
        have y2 := HY9.out.cell 2
        have y3 := HY9.out.cell 3
        have x0 := HR9.out.frozen 0
        have x1 := HR9.out.frozen 1
        have x2 := HR9.out.frozen 2
        have x3 := HR9.out.frozen 3
        have v0 := HR9.out.cell 0
        have v1 := HR9.out.cell 1
        have v2 := HR9.out.cell 2
        have v3 := HR9.out.cell 3
        go_wp2_with (go_at_call 60; refine (HBig.out _).mono ?_; rintro e w5 ⟨rfl, rfl⟩)
        clear y0 y1 y2 y3 x0 x1 x2 x3 v0 v1 v2 v3 q1 f1
        obtain ⟨hB, hk1⟩ := arr4_set (v0 := .int .i64 na) (v1 := .int .i64 nf) (v2 := .int .i64 np) (v3 := .int .i64 nc) HR9.out
        generalize World.setCell _ ⟨w.heap.size, 3, none⟩ _ = W at *
        have y0 := hB.cell 0
        have y1 := hB.cell 1
        have y2 := hB.cell 2
        have y3 := hB.cell 3
        refine bodyPost_ret (v := .agg #[.int .i64 na, .int .i64 nf, .int .i64 np, .int .i64 nc]) (by simp [results, Try.results93, go_sem, y0, y1, y2, y3]) rfl ⟨?_, ?_, ?_⟩
        · rw [HHd.out]
        · rw [HHs.out]; exact HS9.out.keep hk1 (fun q hq => by simp at hq; omega)
        · exact HK9.out.past hk1 (fun q hq => by simp at hq; simp; omega)
end Go.Proofs.Ytdcjiohbnnipdaa
