/- The walks of obj's reader: instr, head. -/
import Derived.Test.YtdcjiohbnnipdaaReadW
namespace Go.Proofs.Ytdcjiohbnnipdaa
open Go.RowKit
attribute [local irreducible] takeR numR nameR kindsOf nameOf

def insC (op : Int) (l : List Int) : Array Value := #[.int .i64 op, .int .i64 (l.getD 0 0), .int .i64 (l.getD 1 0), .int .i64 (l.getD 2 0), .int .i64 (l.getD 3 0)]
theorem insC_set (op v : Int) (l : List Int) (j : Nat) (hl : l.length = j) (hj : j < 4) : (insC op l).setIfInBounds (1 + j) (.int .i64 v) = insC op (l ++ [v]) := by
  subst hl
  match l, hj with
  | [], _ => rfl
  | [a], _ => rfl
  | [a, b], _ => rfl
  | [a, b, c], _ => rfl
theorem insV_of (op : Int) (l : List Int) : insV (insOf op l) = .agg (insC op l) := rfl
theorem kinds_step {ks : List Int} {j : Nat} {x : Int} (hx : ks[j]? = some x) (s : RdS) :
    argsR (ks.take (j + 1)) s = ((argsR (ks.take j) s).1 ++ [((numR (szOf x) (argsR (ks.take j) s).2).1 : Int)], (numR (szOf x) (argsR (ks.take j) s).2).2) := by
  rw [List.take_add_one, hx]
  exact argsR_snoc x _ s
theorem RdrAt.info {w : World} {g B : Nat} {s : RdS} (h : RdrAt w g B s) : g < w.heap.size := Nat.lt_of_lt_of_le h.lt h.le
theorem Keeps.past {a b c : World} {S T : List Nat} (h : Keeps a b S) (k : Keeps b c T) (hT : ∀ q, q ∈ T → q ∈ S ∨ a.heap.size ≤ q) : Keeps a c S :=
  ⟨k.os.trans h.os, k.tape.trans h.tape, k.output.trans h.output, Nat.le_trans h.size k.size, fun i hi hn => (k.block i (Nat.lt_of_lt_of_le hi h.size) (fun hm => by
    rcases hT i hm with h' | h'
    · exact hn h'
    · omega)).trans (h.block i hi hn)⟩
theorem insC_at (op : Int) (l : List Int) (j : Nat) (hj : j < 4) : ∃ u, (insC op l)[1 + j]? = some (.int .i64 u) := by
  match j, hj with
  | 0, _ => exact ⟨_, rfl⟩
  | 1, _ => exact ⟨_, rfl⟩
  | 2, _ => exact ⟨_, rfl⟩
  | 3, _ => exact ⟨_, rfl⟩

set_option maxRecDepth 100000 in
set_option maxHeartbeats 6400000 in
theorem rins_any (w : World) (g B : Nat) (s : RdS) (h : RdrAt w g B s) : Calls Try.prog 95 #[.pointer (some ⟨g, 0, none⟩)] w (NumRead w g B (insV (insR s).1) (insR s).2) := by
  have hlt := h.lt
  have hle := h.le
  have HV : Hid ((insR s).1 = insOf (numR 1 s).1 (argsR (kindsOf (numR 1 s).1) (opR (numR 1 s).1 (numR 1 s).2)).1 ∧ (insR s).2 = (argsR (kindsOf (numR 1 s).1) (opR (numR 1 s).1 (numR 1 s).2)).2) := ⟨rfl, rfl⟩
  have HN := Lib.hid (rnum_any 1 (by omega) (w.alloc (.cells #[.int .i64 0, .int .i64 0, .int .i64 0, .int .i64 0, .int .i64 0] 117)) g B s (h.keep0 ((Keeps.refl w []).alloc _)))
  have HK0 : Hid (Keeps w (w.alloc (.cells #[.int .i64 0, .int .i64 0, .int .i64 0, .int .i64 0, .int .i64 0] 117)) [g]) := (Keeps.refl w [g]).alloc _
  have HR0 : Hid (Blk (w.alloc (.cells #[.int .i64 0, .int .i64 0, .int .i64 0, .int .i64 0, .int .i64 0] 117)) w.heap.size 117 (insC 0 [])) := Blk.new w _ _
  have hop := numR_lt (k := 1) h.byte
  clear h
  generalize numR 1 s = r at *
  obtain ⟨op, s1⟩ := r
  simp only at HV HN hop
  obtain ⟨s2, hs2⟩ : ∃ s2, opR op s1 = s2 := ⟨_, rfl⟩
  rw [hs2] at HV
  have HS2 := Lib.hid hs2
  clear hs2
  go_enter Try.func95, Try.ntmps95
  go_wp2_with fail
  refine HN.out.mono ?_
  rintro e w1 ⟨rfl, h1, k1⟩
  have HK1 := Lib.hid ((HK0.out.trans k1).alloc (.cells #[.int .i64 op, .int .i64 0, .int .i64 0, .int .i64 0, .int .i64 0] 117))
  have HR1 := Lib.hid ((HR0.out.keep k1 (by simp; omega)).alloc (.cells #[.int .i64 op, .int .i64 0, .int .i64 0, .int .i64 0, .int .i64 0] 117))
  have HI1 : Hid (Blk (w1.alloc (.cells #[.int .i64 op, .int .i64 0, .int .i64 0, .int .i64 0, .int .i64 0] 117)) w1.heap.size 117 (insC op [])) := Blk.new w1 _ _
  have HS1 := Lib.hid (h1.keep0 ((Keeps.refl w1 []).alloc (.cells #[.int .i64 op, .int .i64 0, .int .i64 0, .int .i64 0, .int .i64 0] 117)))
  have q1 := HS1.out.err
  have f1 : (w1.alloc (.cells #[.int .i64 op, .int .i64 0, .int .i64 0, .int .i64 0, .int .i64 0] 117)).frozen? ⟨g, 1, none⟩ = false := by
    obtain ⟨A, n, c, hb, _⟩ := HS1.out.ex
    exact hb.frozen 1
  have hs1 := k1.size
  simp at hs1
  clear h1 k1
  by_cases he : s1.err = 0
  · have d0 : (s1.err == 0) = true := by simpa using he
    by_cases ho : op ≤ 26
    · have hne : (nameOf op).toList.isEmpty = false := nameOf_in (by simp [opIn]; omega)
      have h12 : s2 = s1 := by rw [← HS2.out, opR, if_neg (by omega)]
      subst h12
      clear he ho
      go_wp2_with (go_at_call 103; refine (name6_any op _).mono ?_; rintro e w2 ⟨rfl, k2⟩; have HS4 := Lib.hid (HS1.out.keep0 k2); have HI4 := Lib.hid (HI1.out.keep k2 (by simp)); have HR4 := Lib.hid (HR1.out.keep k2 (by simp)); have HK4 := Lib.hid (HK1.out.trans (k2.to_ _)); have z0 : World.cell? _ ⟨w1.heap.size, 0, none⟩ = some (.int .i64 op) := HI4.out.cell 0; clear k2 q1 HS1 HI1 HR1 HK1 f1)
      refine (kindsF_any op _).mono ?_
      rintro e w3 ⟨A, c, rfl, hN, k3, hfr⟩
      have HFR := Lib.hid hfr
      have hib4 := HI4.out.lt
      have HN3 := Lib.hid hN
      have HS3 := Lib.hid (HS4.out.keep0 k3)
      have HI3 := Lib.hid (HI4.out.keep k3 (by simp))
      have HR3 := Lib.hid (HR4.out.keep k3 (by simp))
      have HK3 := Lib.hid (HK4.out.trans (k3.to_ _))
      have hib : w1.heap.size < w3.heap.size := HI3.out.lt
      have hfew := kinds_few op
      obtain ⟨m, hm⟩ : ∃ m, (kindsOf op).length = m := ⟨_, rfl⟩
      rw [hm] at hfew ⊢
      have HM := Lib.hid hm
      clear k3 hN hfr hm z0 HS4 HI4 HR4 HK4
      go_wp2_with fail
      go_loopw [4, 5, 27] (fun v4 v5 i wr => ∃ j : Nat, j ≤ m ∧ i = .int .i64 j ∧ RdrAt wr g B (argsR ((kindsOf op).take j) s2).2 ∧ Blk wr w1.heap.size 117 (insC op (argsR ((kindsOf op).take j) s2).1) ∧ Keeps w3 wr [g, w1.heap.size]) (fun _ _ i _ => m - (intOf i).toNat)
      case atStart => exact ⟨0, Nat.zero_le _, rfl, HS3.out, HI3.out, Keeps.refl _ _⟩
      case round =>
        clear HS3 HI3
        obtain ⟨j, hj, rfl, hs, hi, kr⟩ := hrel
        have HSr := Lib.hid hs
        have HIr := Lib.hid hi
        have HKr := Lib.hid kr
        clear hs hi kr
        by_cases hlj : j < m
        · obtain ⟨b7, off7, y, hA7, hb7, hc7, hy⟩ := HN3.out j (by rw [HM.out]; exact hlj)
          subst hA7
          have hfr7 := HFR.out b7 off7 rfl
          have hx1 := kinds_mem op y (List.mem_of_getElem? hy)
          obtain ⟨q, rfl⟩ := Int.eq_ofNat_of_zero_le (show 0 ≤ y by omega)
          have q1 := (HKr.out.cell (p := ⟨b7, off7 + j, none⟩) hb7 (by simp; omega)).trans hc7
          have HStep := Lib.hid (kinds_step hy s2)
          have hlen := argsR_len ((kindsOf op).take j) s2
          rw [List.length_take, HM.out, Nat.min_eq_left hj] at hlen
          have HLen := Lib.hid hlen
          have b1 : (j : Int) < (m : Int) := by omega
          have b0 : (0 : Int) ≤ (j : Int) := Int.natCast_nonneg _
          have b4 : (j : Int) < 4 := by omega
          have hz := szOf_le q
          have hsz := sizeOf_any q
          have hnum := fun w h => rnum_any (szOf q) (by omega) w g B (argsR ((kindsOf op).take j) s2).2 h
          obtain ⟨sz, hszq⟩ : ∃ sz, szOf q = sz := ⟨_, rfl⟩
          rw [hszq] at hsz hnum HStep
          have HSz := Lib.hid hsz
          have HNum := Lib.hid hnum
          generalize argsR ((kindsOf op).take j) s2 = rj at *
          have hsize := HKr.out.size
          clear hy hc7 hlen hszq hz hsz hnum
          go_wp2_with (go_at_call 56; refine (HSz.out _).mono ?_; rintro e w4 ⟨rfl, rfl⟩)
          refine (HNum.out _ HSr.out).mono ?_
          rintro e w5 ⟨rfl, h5, k5⟩
          have hi5 := HIr.out.keep k5 (by simp; omega)
          have f5 := hi5.frozen (1 + j)
          have c5 : World.cell? _ ⟨w1.heap.size, 1 + j, none⟩ = (insC op rj.1)[1 + j]? := hi5.cell (1 + j)
          obtain ⟨u5, hu5⟩ := insC_at op rj.1 j (by omega)
          rw [hu5] at c5
          have HS6 := Lib.hid (h5.keep ((Keeps.refl w5 [w1.heap.size]).setCell (p := ⟨w1.heap.size, 1 + j, none⟩) (.inl (by simp)) (.int .i64 (numR sz rj.2).1)) (fun q hq => by simp at hq; omega))
          have HI6 := Lib.hid (hi5.set_ (1 + j) (.int .i64 (numR sz rj.2).1))
          have HK6 := Lib.hid ((HKr.out.trans (k5.more (T := [g, w1.heap.size]) (by simp; omega))).setCell (p := ⟨w1.heap.size, 1 + j, none⟩) (.inl (by simp)) (.int .i64 (numR sz rj.2).1))
          clear h5 k5 hi5 hu5
          go_wp2_with fail
          go_roundw
          case rel =>
            refine ⟨j + 1, by omega, by go_num, ?_, ?_, HK6.out⟩
            · rw [HStep.out]; exact HS6.out
            · rw [HStep.out]
              have := HI6.out
              rw [insC_set op _ rj.1 j HLen.out (by omega)] at this
              exact this
          case measure => simp [intOf]; omega
        · obtain rfl : m = j := by omega
          have hall : (kindsOf op).take m = kindsOf op := List.take_of_length_le (by have := HM.out; omega)
          rw [hall] at HSr HIr
          have z1 := HIr.out
          have z2 := HR3.out.keep HKr.out (by simp; omega)
          have HW : Hid (insV (insR s).1 = .agg (insC op (argsR (kindsOf op) s2).1) ∧ (insR s).2 = (argsR (kindsOf op) s2).2) := by show _ ∧ _; rw [HV.out.1, HV.out.2]; exact ⟨rfl, rfl⟩
          generalize argsR (kindsOf op) s2 = rj at *
          obtain ⟨a0, a1, a2, a3, hC⟩ : ∃ a0 a1 a2 a3 : Int, insC op rj.1 = #[.int .i64 op, .int .i64 a0, .int .i64 a1, .int .i64 a2, .int .i64 a3] := ⟨_, _, _, _, rfl⟩
          rw [hC] at z1 HW
          clear hC HIr
          have z3 : Blk wr w.heap.size 117 #[.int .i64 0, .int .i64 0, .int .i64 0, .int .i64 0, .int .i64 0] := z2
          have HZ2 := Lib.hid z3
          have y0 := z1.cell 0
          have y1 := z1.cell 1
          have y2 := z1.cell 2
          have y3 := z1.cell 3
          have y4 := z1.cell 4
          have x0 := z2.frozen 0
          have x1 := z2.frozen 1
          have x2 := z2.frozen 2
          have x3 := z2.frozen 3
          have x4 := z2.frozen 4
          have v0 := z3.cell 0
          have v1 := z3.cell 1
          have v2 := z3.cell 2
          have v3 := z3.cell 3
          have v4 := z3.cell 4
          clear z1 z2 z3
          go_wp2_with fail
          have HB : Hid (Blk (((((wr.setCell ⟨w.heap.size, 0, none⟩ (.int .i64 op)).setCell ⟨w.heap.size, 1, none⟩ (.int .i64 a0)).setCell ⟨w.heap.size, 2, none⟩ (.int .i64 a1)).setCell ⟨w.heap.size, 3, none⟩ (.int .i64 a2)).setCell ⟨w.heap.size, 4, none⟩ (.int .i64 a3)) w.heap.size 117 #[.int .i64 op, .int .i64 a0, .int .i64 a1, .int .i64 a2, .int .i64 a3]) := ((((HZ2.out.set_ 0 (.int .i64 op)).set_ 1 (.int .i64 a0)).set_ 2 (.int .i64 a1)).set_ 3 (.int .i64 a2)).set_ 4 (.int .i64 a3)
          have hk1 : Keeps wr (((((wr.setCell ⟨w.heap.size, 0, none⟩ (.int .i64 op)).setCell ⟨w.heap.size, 1, none⟩ (.int .i64 a0)).setCell ⟨w.heap.size, 2, none⟩ (.int .i64 a1)).setCell ⟨w.heap.size, 3, none⟩ (.int .i64 a2)).setCell ⟨w.heap.size, 4, none⟩ (.int .i64 a3)) [w.heap.size] := (((((Keeps.refl wr [w.heap.size]).setCell (.inl (by simp)) _).setCell (.inl (by simp)) _).setCell (.inl (by simp)) _).setCell (.inl (by simp)) _).setCell (.inl (by simp)) _
          clear x0 x1 x2 x3 x4 v0 v1 v2 v3 v4 y0 y1 y2 y3 y4
          generalize (((((wr.setCell ⟨w.heap.size, 0, none⟩ (.int .i64 op)).setCell ⟨w.heap.size, 1, none⟩ (.int .i64 a0)).setCell ⟨w.heap.size, 2, none⟩ (.int .i64 a1)).setCell ⟨w.heap.size, 3, none⟩ (.int .i64 a2)).setCell ⟨w.heap.size, 4, none⟩ (.int .i64 a3)) = W at *
          have y0 := HB.out.cell 0
          have y1 := HB.out.cell 1
          have y2 := HB.out.cell 2
          have y3 := HB.out.cell 3
          have y4 := HB.out.cell 4
          refine bodyPost_ret (v := .agg #[.int .i64 op, .int .i64 a0, .int .i64 a1, .int .i64 a2, .int .i64 a3]) (by simp [results, Try.results95, go_sem, y0, y1, y2, y3, y4]) rfl ⟨by rw [HW.out.1], by rw [HW.out.2]; exact HSr.out.keep hk1 (fun q hq => by simp at hq; omega), ?_⟩
          exact (HK3.out.past HKr.out (fun q hq => by simp at hq; simp; omega)).past hk1 (fun q hq => by simp at hq; simp; omega)
    · have hne : (nameOf op).toList.isEmpty = true := nameOf_out (by simp [opIn]; omega)
      have h12 : s2 = ⟨s1.rest, 8⟩ := by rw [← HS2.out, opR, if_pos ⟨he, by omega⟩]
      clear he ho
      go_wp2_with (go_at_call 103; refine (name6_any op _).mono ?_; rintro e w2 ⟨rfl, k2⟩; have HS4 := Lib.hid (show RdrAt _ g B s2 from h12 ▸ ((HS1.out.keep0 k2).set 8)); have HI4 := Lib.hid ((HI1.out.keep k2 (by simp)).far (p := ⟨g, 1, none⟩) (by simp; omega) (.int .i64 8)); have HR4 := Lib.hid ((HR1.out.keep k2 (by simp)).far (p := ⟨g, 1, none⟩) (by simp; omega) (.int .i64 8)); have HK4 := Lib.hid ((HK1.out.trans (k2.to_ _)).setCell (p := ⟨g, 1, none⟩) (.inl (by simp)) (.int .i64 8)); have z0 : World.cell? _ ⟨w1.heap.size, 0, none⟩ = some (.int .i64 op) := HI4.out.cell 0; have q2 := (HS1.out.keep0 k2).err; have f2 := (k2.frozen (p := ⟨g, 1, none⟩) (by simp; omega) (by simp)).trans f1; clear k2 q1 HS1 HI1 HR1 HK1 f1)
      refine (kindsF_any op _).mono ?_
      rintro e w3 ⟨A, c, rfl, hN, k3, hfr⟩
      have HFR := Lib.hid hfr
      have hib4 := HI4.out.lt
      have HN3 := Lib.hid hN
      have HS3 := Lib.hid (HS4.out.keep0 k3)
      have HI3 := Lib.hid (HI4.out.keep k3 (by simp))
      have HR3 := Lib.hid (HR4.out.keep k3 (by simp))
      have HK3 := Lib.hid (HK4.out.trans (k3.to_ _))
      have hib : w1.heap.size < w3.heap.size := HI3.out.lt
      have hfew := kinds_few op
      obtain ⟨m, hm⟩ : ∃ m, (kindsOf op).length = m := ⟨_, rfl⟩
      rw [hm] at hfew ⊢
      have HM := Lib.hid hm
      clear k3 hN hfr hm z0 HS4 HI4 HR4 HK4
      go_wp2_with fail
      go_loopw [4, 5, 27] (fun v4 v5 i wr => ∃ j : Nat, j ≤ m ∧ i = .int .i64 j ∧ RdrAt wr g B (argsR ((kindsOf op).take j) s2).2 ∧ Blk wr w1.heap.size 117 (insC op (argsR ((kindsOf op).take j) s2).1) ∧ Keeps w3 wr [g, w1.heap.size]) (fun _ _ i _ => m - (intOf i).toNat)
      case atStart => exact ⟨0, Nat.zero_le _, rfl, HS3.out, HI3.out, Keeps.refl _ _⟩
      case round =>
        clear HS3 HI3
        obtain ⟨j, hj, rfl, hs, hi, kr⟩ := hrel
        have HSr := Lib.hid hs
        have HIr := Lib.hid hi
        have HKr := Lib.hid kr
        clear hs hi kr
        by_cases hlj : j < m
        · obtain ⟨b7, off7, y, hA7, hb7, hc7, hy⟩ := HN3.out j (by rw [HM.out]; exact hlj)
          subst hA7
          have hfr7 := HFR.out b7 off7 rfl
          have hx1 := kinds_mem op y (List.mem_of_getElem? hy)
          obtain ⟨q, rfl⟩ := Int.eq_ofNat_of_zero_le (show 0 ≤ y by omega)
          have q1 := (HKr.out.cell (p := ⟨b7, off7 + j, none⟩) hb7 (by simp; omega)).trans hc7
          have HStep := Lib.hid (kinds_step hy s2)
          have hlen := argsR_len ((kindsOf op).take j) s2
          rw [List.length_take, HM.out, Nat.min_eq_left hj] at hlen
          have HLen := Lib.hid hlen
          have b1 : (j : Int) < (m : Int) := by omega
          have b0 : (0 : Int) ≤ (j : Int) := Int.natCast_nonneg _
          have b4 : (j : Int) < 4 := by omega
          have hz := szOf_le q
          have hsz := sizeOf_any q
          have hnum := fun w h => rnum_any (szOf q) (by omega) w g B (argsR ((kindsOf op).take j) s2).2 h
          obtain ⟨sz, hszq⟩ : ∃ sz, szOf q = sz := ⟨_, rfl⟩
          rw [hszq] at hsz hnum HStep
          have HSz := Lib.hid hsz
          have HNum := Lib.hid hnum
          generalize argsR ((kindsOf op).take j) s2 = rj at *
          have hsize := HKr.out.size
          clear hy hc7 hlen hszq hz hsz hnum
          go_wp2_with (go_at_call 56; refine (HSz.out _).mono ?_; rintro e w4 ⟨rfl, rfl⟩)
          refine (HNum.out _ HSr.out).mono ?_
          rintro e w5 ⟨rfl, h5, k5⟩
          have hi5 := HIr.out.keep k5 (by simp; omega)
          have f5 := hi5.frozen (1 + j)
          have c5 : World.cell? _ ⟨w1.heap.size, 1 + j, none⟩ = (insC op rj.1)[1 + j]? := hi5.cell (1 + j)
          obtain ⟨u5, hu5⟩ := insC_at op rj.1 j (by omega)
          rw [hu5] at c5
          have HS6 := Lib.hid (h5.keep ((Keeps.refl w5 [w1.heap.size]).setCell (p := ⟨w1.heap.size, 1 + j, none⟩) (.inl (by simp)) (.int .i64 (numR sz rj.2).1)) (fun q hq => by simp at hq; omega))
          have HI6 := Lib.hid (hi5.set_ (1 + j) (.int .i64 (numR sz rj.2).1))
          have HK6 := Lib.hid ((HKr.out.trans (k5.more (T := [g, w1.heap.size]) (by simp; omega))).setCell (p := ⟨w1.heap.size, 1 + j, none⟩) (.inl (by simp)) (.int .i64 (numR sz rj.2).1))
          clear h5 k5 hi5 hu5
          go_wp2_with fail
          go_roundw
          case rel =>
            refine ⟨j + 1, by omega, by go_num, ?_, ?_, HK6.out⟩
            · rw [HStep.out]; exact HS6.out
            · rw [HStep.out]
              have := HI6.out
              rw [insC_set op _ rj.1 j HLen.out (by omega)] at this
              exact this
          case measure => simp [intOf]; omega
        · obtain rfl : m = j := by omega
          have hall : (kindsOf op).take m = kindsOf op := List.take_of_length_le (by have := HM.out; omega)
          rw [hall] at HSr HIr
          have z1 := HIr.out
          have z2 := HR3.out.keep HKr.out (by simp; omega)
          have HW : Hid (insV (insR s).1 = .agg (insC op (argsR (kindsOf op) s2).1) ∧ (insR s).2 = (argsR (kindsOf op) s2).2) := by show _ ∧ _; rw [HV.out.1, HV.out.2]; exact ⟨rfl, rfl⟩
          generalize argsR (kindsOf op) s2 = rj at *
          obtain ⟨a0, a1, a2, a3, hC⟩ : ∃ a0 a1 a2 a3 : Int, insC op rj.1 = #[.int .i64 op, .int .i64 a0, .int .i64 a1, .int .i64 a2, .int .i64 a3] := ⟨_, _, _, _, rfl⟩
          rw [hC] at z1 HW
          clear hC HIr
          have z3 : Blk wr w.heap.size 117 #[.int .i64 0, .int .i64 0, .int .i64 0, .int .i64 0, .int .i64 0] := z2
          have HZ2 := Lib.hid z3
          have y0 := z1.cell 0
          have y1 := z1.cell 1
          have y2 := z1.cell 2
          have y3 := z1.cell 3
          have y4 := z1.cell 4
          have x0 := z2.frozen 0
          have x1 := z2.frozen 1
          have x2 := z2.frozen 2
          have x3 := z2.frozen 3
          have x4 := z2.frozen 4
          have v0 := z3.cell 0
          have v1 := z3.cell 1
          have v2 := z3.cell 2
          have v3 := z3.cell 3
          have v4 := z3.cell 4
          clear z1 z2 z3
          go_wp2_with fail
          have HB : Hid (Blk (((((wr.setCell ⟨w.heap.size, 0, none⟩ (.int .i64 op)).setCell ⟨w.heap.size, 1, none⟩ (.int .i64 a0)).setCell ⟨w.heap.size, 2, none⟩ (.int .i64 a1)).setCell ⟨w.heap.size, 3, none⟩ (.int .i64 a2)).setCell ⟨w.heap.size, 4, none⟩ (.int .i64 a3)) w.heap.size 117 #[.int .i64 op, .int .i64 a0, .int .i64 a1, .int .i64 a2, .int .i64 a3]) := ((((HZ2.out.set_ 0 (.int .i64 op)).set_ 1 (.int .i64 a0)).set_ 2 (.int .i64 a1)).set_ 3 (.int .i64 a2)).set_ 4 (.int .i64 a3)
          have hk1 : Keeps wr (((((wr.setCell ⟨w.heap.size, 0, none⟩ (.int .i64 op)).setCell ⟨w.heap.size, 1, none⟩ (.int .i64 a0)).setCell ⟨w.heap.size, 2, none⟩ (.int .i64 a1)).setCell ⟨w.heap.size, 3, none⟩ (.int .i64 a2)).setCell ⟨w.heap.size, 4, none⟩ (.int .i64 a3)) [w.heap.size] := (((((Keeps.refl wr [w.heap.size]).setCell (.inl (by simp)) _).setCell (.inl (by simp)) _).setCell (.inl (by simp)) _).setCell (.inl (by simp)) _).setCell (.inl (by simp)) _
          clear x0 x1 x2 x3 x4 v0 v1 v2 v3 v4 y0 y1 y2 y3 y4
          generalize (((((wr.setCell ⟨w.heap.size, 0, none⟩ (.int .i64 op)).setCell ⟨w.heap.size, 1, none⟩ (.int .i64 a0)).setCell ⟨w.heap.size, 2, none⟩ (.int .i64 a1)).setCell ⟨w.heap.size, 3, none⟩ (.int .i64 a2)).setCell ⟨w.heap.size, 4, none⟩ (.int .i64 a3)) = W at *
          have y0 := HB.out.cell 0
          have y1 := HB.out.cell 1
          have y2 := HB.out.cell 2
          have y3 := HB.out.cell 3
          have y4 := HB.out.cell 4
          refine bodyPost_ret (v := .agg #[.int .i64 op, .int .i64 a0, .int .i64 a1, .int .i64 a2, .int .i64 a3]) (by simp [results, Try.results95, go_sem, y0, y1, y2, y3, y4]) rfl ⟨by rw [HW.out.1], by rw [HW.out.2]; exact HSr.out.keep hk1 (fun q hq => by simp at hq; omega), ?_⟩
          exact (HK3.out.past HKr.out (fun q hq => by simp at hq; simp; omega)).past hk1 (fun q hq => by simp at hq; simp; omega)
  · have d0 : (s1.err == 0) = false := by simpa using he
    have h12 : s2 = s1 := by rw [← HS2.out, opR, if_neg (by omega)]
    subst h12
    clear he
    have HS4 := HS1
    have HI4 := HI1
    have HR4 := HR1
    have HK4 := HK1
    have z0 : World.cell? _ ⟨w1.heap.size, 0, none⟩ = some (.int .i64 op) := HI4.out.cell 0
    clear HS1 HI1 HR1 HK1 f1
    go_wp2_with fail
    refine (kindsF_any op _).mono ?_
    rintro e w3 ⟨A, c, rfl, hN, k3, hfr⟩
    have HFR := Lib.hid hfr
    have hib4 := HI4.out.lt
    have HN3 := Lib.hid hN
    have HS3 := Lib.hid (HS4.out.keep0 k3)
    have HI3 := Lib.hid (HI4.out.keep k3 (by simp))
    have HR3 := Lib.hid (HR4.out.keep k3 (by simp))
    have HK3 := Lib.hid (HK4.out.trans (k3.to_ _))
    have hib : w1.heap.size < w3.heap.size := HI3.out.lt
    have hfew := kinds_few op
    obtain ⟨m, hm⟩ : ∃ m, (kindsOf op).length = m := ⟨_, rfl⟩
    rw [hm] at hfew ⊢
    have HM := Lib.hid hm
    clear k3 hN hfr hm z0 HS4 HI4 HR4 HK4
    go_wp2_with fail
    go_loopw [4, 5, 27] (fun v4 v5 i wr => ∃ j : Nat, j ≤ m ∧ i = .int .i64 j ∧ RdrAt wr g B (argsR ((kindsOf op).take j) s2).2 ∧ Blk wr w1.heap.size 117 (insC op (argsR ((kindsOf op).take j) s2).1) ∧ Keeps w3 wr [g, w1.heap.size]) (fun _ _ i _ => m - (intOf i).toNat)
    case atStart => exact ⟨0, Nat.zero_le _, rfl, HS3.out, HI3.out, Keeps.refl _ _⟩
    case round =>
      clear HS3 HI3
      obtain ⟨j, hj, rfl, hs, hi, kr⟩ := hrel
      have HSr := Lib.hid hs
      have HIr := Lib.hid hi
      have HKr := Lib.hid kr
      clear hs hi kr
      by_cases hlj : j < m
      · obtain ⟨b7, off7, y, hA7, hb7, hc7, hy⟩ := HN3.out j (by rw [HM.out]; exact hlj)
        subst hA7
        have hfr7 := HFR.out b7 off7 rfl
        have hx1 := kinds_mem op y (List.mem_of_getElem? hy)
        obtain ⟨q, rfl⟩ := Int.eq_ofNat_of_zero_le (show 0 ≤ y by omega)
        have q1 := (HKr.out.cell (p := ⟨b7, off7 + j, none⟩) hb7 (by simp; omega)).trans hc7
        have HStep := Lib.hid (kinds_step hy s2)
        have hlen := argsR_len ((kindsOf op).take j) s2
        rw [List.length_take, HM.out, Nat.min_eq_left hj] at hlen
        have HLen := Lib.hid hlen
        have b1 : (j : Int) < (m : Int) := by omega
        have b0 : (0 : Int) ≤ (j : Int) := Int.natCast_nonneg _
        have b4 : (j : Int) < 4 := by omega
        have hz := szOf_le q
        have hsz := sizeOf_any q
        have hnum := fun w h => rnum_any (szOf q) (by omega) w g B (argsR ((kindsOf op).take j) s2).2 h
        obtain ⟨sz, hszq⟩ : ∃ sz, szOf q = sz := ⟨_, rfl⟩
        rw [hszq] at hsz hnum HStep
        have HSz := Lib.hid hsz
        have HNum := Lib.hid hnum
        generalize argsR ((kindsOf op).take j) s2 = rj at *
        have hsize := HKr.out.size
        clear hy hc7 hlen hszq hz hsz hnum
        go_wp2_with (go_at_call 56; refine (HSz.out _).mono ?_; rintro e w4 ⟨rfl, rfl⟩)
        refine (HNum.out _ HSr.out).mono ?_
        rintro e w5 ⟨rfl, h5, k5⟩
        have hi5 := HIr.out.keep k5 (by simp; omega)
        have f5 := hi5.frozen (1 + j)
        have c5 : World.cell? _ ⟨w1.heap.size, 1 + j, none⟩ = (insC op rj.1)[1 + j]? := hi5.cell (1 + j)
        obtain ⟨u5, hu5⟩ := insC_at op rj.1 j (by omega)
        rw [hu5] at c5
        have HS6 := Lib.hid (h5.keep ((Keeps.refl w5 [w1.heap.size]).setCell (p := ⟨w1.heap.size, 1 + j, none⟩) (.inl (by simp)) (.int .i64 (numR sz rj.2).1)) (fun q hq => by simp at hq; omega))
        have HI6 := Lib.hid (hi5.set_ (1 + j) (.int .i64 (numR sz rj.2).1))
        have HK6 := Lib.hid ((HKr.out.trans (k5.more (T := [g, w1.heap.size]) (by simp; omega))).setCell (p := ⟨w1.heap.size, 1 + j, none⟩) (.inl (by simp)) (.int .i64 (numR sz rj.2).1))
        clear h5 k5 hi5 hu5
        go_wp2_with fail
        go_roundw
        case rel =>
          refine ⟨j + 1, by omega, by go_num, ?_, ?_, HK6.out⟩
          · rw [HStep.out]; exact HS6.out
          · rw [HStep.out]
            have := HI6.out
            rw [insC_set op _ rj.1 j HLen.out (by omega)] at this
            exact this
        case measure => simp [intOf]; omega
      · obtain rfl : m = j := by omega
        have hall : (kindsOf op).take m = kindsOf op := List.take_of_length_le (by have := HM.out; omega)
        rw [hall] at HSr HIr
        have z1 := HIr.out
        have z2 := HR3.out.keep HKr.out (by simp; omega)
        have HW : Hid (insV (insR s).1 = .agg (insC op (argsR (kindsOf op) s2).1) ∧ (insR s).2 = (argsR (kindsOf op) s2).2) := by show _ ∧ _; rw [HV.out.1, HV.out.2]; exact ⟨rfl, rfl⟩
        generalize argsR (kindsOf op) s2 = rj at *
        obtain ⟨a0, a1, a2, a3, hC⟩ : ∃ a0 a1 a2 a3 : Int, insC op rj.1 = #[.int .i64 op, .int .i64 a0, .int .i64 a1, .int .i64 a2, .int .i64 a3] := ⟨_, _, _, _, rfl⟩
        rw [hC] at z1 HW
        clear hC HIr
        have z3 : Blk wr w.heap.size 117 #[.int .i64 0, .int .i64 0, .int .i64 0, .int .i64 0, .int .i64 0] := z2
        have HZ2 := Lib.hid z3
        have y0 := z1.cell 0
        have y1 := z1.cell 1
        have y2 := z1.cell 2
        have y3 := z1.cell 3
        have y4 := z1.cell 4
        have x0 := z2.frozen 0
        have x1 := z2.frozen 1
        have x2 := z2.frozen 2
        have x3 := z2.frozen 3
        have x4 := z2.frozen 4
        have v0 := z3.cell 0
        have v1 := z3.cell 1
        have v2 := z3.cell 2
        have v3 := z3.cell 3
        have v4 := z3.cell 4
        clear z1 z2 z3
        go_wp2_with fail
        have HB : Hid (Blk (((((wr.setCell ⟨w.heap.size, 0, none⟩ (.int .i64 op)).setCell ⟨w.heap.size, 1, none⟩ (.int .i64 a0)).setCell ⟨w.heap.size, 2, none⟩ (.int .i64 a1)).setCell ⟨w.heap.size, 3, none⟩ (.int .i64 a2)).setCell ⟨w.heap.size, 4, none⟩ (.int .i64 a3)) w.heap.size 117 #[.int .i64 op, .int .i64 a0, .int .i64 a1, .int .i64 a2, .int .i64 a3]) := ((((HZ2.out.set_ 0 (.int .i64 op)).set_ 1 (.int .i64 a0)).set_ 2 (.int .i64 a1)).set_ 3 (.int .i64 a2)).set_ 4 (.int .i64 a3)
        have hk1 : Keeps wr (((((wr.setCell ⟨w.heap.size, 0, none⟩ (.int .i64 op)).setCell ⟨w.heap.size, 1, none⟩ (.int .i64 a0)).setCell ⟨w.heap.size, 2, none⟩ (.int .i64 a1)).setCell ⟨w.heap.size, 3, none⟩ (.int .i64 a2)).setCell ⟨w.heap.size, 4, none⟩ (.int .i64 a3)) [w.heap.size] := (((((Keeps.refl wr [w.heap.size]).setCell (.inl (by simp)) _).setCell (.inl (by simp)) _).setCell (.inl (by simp)) _).setCell (.inl (by simp)) _).setCell (.inl (by simp)) _
        clear x0 x1 x2 x3 x4 v0 v1 v2 v3 v4 y0 y1 y2 y3 y4
        generalize (((((wr.setCell ⟨w.heap.size, 0, none⟩ (.int .i64 op)).setCell ⟨w.heap.size, 1, none⟩ (.int .i64 a0)).setCell ⟨w.heap.size, 2, none⟩ (.int .i64 a1)).setCell ⟨w.heap.size, 3, none⟩ (.int .i64 a2)).setCell ⟨w.heap.size, 4, none⟩ (.int .i64 a3)) = W at *
        have y0 := HB.out.cell 0
        have y1 := HB.out.cell 1
        have y2 := HB.out.cell 2
        have y3 := HB.out.cell 3
        have y4 := HB.out.cell 4
        refine bodyPost_ret (v := .agg #[.int .i64 op, .int .i64 a0, .int .i64 a1, .int .i64 a2, .int .i64 a3]) (by simp [results, Try.results95, go_sem, y0, y1, y2, y3, y4]) rfl ⟨by rw [HW.out.1], by rw [HW.out.2]; exact HSr.out.keep hk1 (fun q hq => by simp at hq; omega), ?_⟩
        exact (HK3.out.past HKr.out (fun q hq => by simp at hq; simp; omega)).past hk1 (fun q hq => by simp at hq; simp; omega)
end Go.Proofs.Ytdcjiohbnnipdaa
