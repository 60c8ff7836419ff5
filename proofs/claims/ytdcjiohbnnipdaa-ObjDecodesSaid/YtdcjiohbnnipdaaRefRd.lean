/- The walks of the document's reader: num, name. -/
import Derived.Test.YtdcjiohbnnipdaaDec
namespace Go.Proofs.Ytdcjiohbnnipdaa
open Go.RowKit
attribute [local irreducible] takeR numR nameR insR kindsOf nameOf bigB checkE

/-- The document's reader behind its pointer: its block g; it stands where s does. -/
structure RrAt (w : World) (g B : Nat) (A : Option Addr) (n c : Nat) (l : List Int) (s : RdS) : Prop where
  ex : ∃ p : Int, Blk w g 101 #[.slice A n c, .int .i64 p, .int .i64 s.err] ∧ (s.err = 0 → ∃ k : Nat, p = k ∧ k ≤ n ∧ s.rest = l.drop k)
  rd : Rd w A (u8s l)
  off : l ≠ [] → ∀ a, A = some a → a.block < B ∧ a.block ≠ g
  len : l.length = n
  cap : n ≤ c
  few : n ≤ 65536
  byte : IsByte l
  lt : g < B
  le : B ≤ w.heap.size
theorem RrAt.keep {w w' : World} {g B : Nat} {A : Option Addr} {n c : Nat} {l : List Int} {S : List Nat} {s : RdS} (h : RrAt w g B A n c l s) (k : Keeps w w' S) (hS : ∀ q, q ∈ S → B ≤ q) : RrAt w' g B A n c l s := by
  obtain ⟨p, h1, h2⟩ := h.ex
  refine ⟨⟨p, h1.keep k (fun hm => by have := hS g hm; have := h.lt; omega), h2⟩, ?_, h.off, h.len, h.cap, h.few, h.byte, h.lt, Nat.le_trans h.le k.size⟩
  by_cases hl : l = []
  · subst hl; exact Rd.nil
  · exact h.rd.keepOff k (fun a e hm => by have := hS _ hm; have := (h.off hl a e).1; omega)
theorem RrAt.keep0 {w w' : World} {g B : Nat} {A : Option Addr} {n c : Nat} {l : List Int} {s : RdS} (h : RrAt w g B A n c l s) (k : Keeps w w' []) : RrAt w' g B A n c l s := h.keep k (fun q hq => by cases hq)
/-- Its place and its error are laid anew. -/
theorem RrAt.lay {w : World} {g B : Nat} {A : Option Addr} {n c : Nat} {l : List Int} {s s' : RdS} {W : World} {p : Int} (h : RrAt w g B A n c l s) (k : Keeps w W [g]) (hb : Blk W g 101 #[.slice A n c, .int .i64 p, .int .i64 s'.err])
    (hp : s'.err = 0 → ∃ k : Nat, p = k ∧ k ≤ n ∧ s'.rest = l.drop k) : RrAt W g B A n c l s' := by
  refine ⟨⟨p, hb, hp⟩, ?_, h.off, h.len, h.cap, h.few, h.byte, h.lt, Nat.le_trans h.le k.size⟩
  by_cases hl : l = []
  · subst hl; exact Rd.nil
  · exact h.rd.keepOff k (fun a e => by have := (h.off hl a e).2; simpa using this)
def RefRead (w : World) (g B : Nat) (A : Option Addr) (n c : Nat) (l : List Int) (v : Value) (s : RdS) (e : Ending) (w' : World) : Prop := e = .returned v ∧ RrAt w' g B A n c l s ∧ Keeps w w' [g]
theorem rest_byte {w : World} {g B : Nat} {A : Option Addr} {n c : Nat} {l : List Int} {s : RdS} (h : RrAt w g B A n c l s) (he : s.err = 0) : IsByte s.rest := by
  obtain ⟨p, _, h2⟩ := h.ex
  obtain ⟨k, _, _, hr⟩ := h2 he
  rw [hr]
  exact isByte_drop h.byte k

set_option maxRecDepth 20000 in
set_option maxHeartbeats 1600000 in
theorem refRnum_any (k : Nat) (hk : k ≤ 4) (w : World) (g B : Nat) (A : Option Addr) (n c : Nat) (l : List Int) (s : RdS) (h : RrAt w g B A n c l s) :
    Calls Try.prog 47 #[.pointer (some ⟨g, 0, none⟩), .int .i64 k] w (RefRead w g B A n c l (.int .i64 (numR k s).1) (numR k s).2) := by
  have H := Lib.hid h
  obtain ⟨p, hb, hp⟩ := h.ex
  have HB := Lib.hid hb
  have hnl := h.len
  have hnc := h.cap
  have hfew := h.few
  clear h
  by_cases he : s.err = 0
  case neg =>
    have HV := Lib.hid (numR_keep (k := k) he)
    have q2 := hb.cell 2
    have d0 : (s.err != 0) = true := by simpa using he
    have d1 : (s.err == 0) = false := by simpa using he
    clear he hb hp
    rw [HV.out]
    cases k with
    | zero =>
      go_enter Try.func47, Try.ntmps47
      go_wp2_with fail
      go_loopw [5, 6] (fun v i wr => wr = w ∧ v = .int .i64 0 ∧ i = .int .i64 0) (fun _ i _ => 4)
      case atStart => exact ⟨rfl, rfl, rfl⟩
      case round =>
        obtain ⟨rfl, rfl, rfl⟩ := hrel
        go_wp2_with fail
        go_ret
        exact ⟨rfl, H.out, Keeps.refl _ _⟩
    | succ k =>
      go_enter Try.func47, Try.ntmps47
      go_wp2_with fail
      go_loopw [5, 6] (fun v i wr => wr = w ∧ v = .int .i64 0 ∧ i = .int .i64 0) (fun _ i _ => 4)
      case atStart => exact ⟨rfl, rfl, rfl⟩
      case round =>
        obtain ⟨rfl, rfl, rfl⟩ := hrel
        have d2 : decide ((0 : Int) < ((k + 1 : Nat) : Int)) = true := by simp only [decide_eq_true_eq]; omega
        go_upto_region 5 with fail
        go_region
        go_wp2_with fail
        go_ret
        exact ⟨rfl, H.out.keep0 (Keeps.refl _ []).drew, (Keeps.refl _ _).drew⟩
  obtain ⟨p0, hp0, hpn, hrest⟩ := hp he
  subst hp0
  have hrl : s.rest.length = n - p0 := by rw [hrest, List.length_drop, hnl]
  have HRest := Lib.hid hrest
  have HE := Lib.hid he
  rw [he] at hb
  have HBy := Lib.hid (rest_byte H.out he)
  clear HB hp hrest he
  go_enter Try.func47, Try.ntmps47
  go_wp2_with fail
  go_loopw [5, 6] (fun v i wr => ∃ j : Nat, j ≤ k ∧ p0 + j ≤ n ∧ i = .int .i64 j ∧ v = .int .i64 (valB (s.rest.take j) : Nat) ∧ Blk wr g 101 #[.slice A n c, .int .i64 ((p0 + j : Nat) : Int), .int .i64 0] ∧ Keeps w wr [g]) (fun _ i _ => k - (intOf i).toNat)
  case atStart => exact ⟨0, by omega, by omega, rfl, rfl, hb, Keeps.refl _ _⟩
  case round =>
    obtain ⟨j, hj, hpj, rfl, rfl, hbr, kr⟩ := hrel
    have HBr := Lib.hid hbr
    have HKr := Lib.hid kr
    have q0 := hbr.cell 0
    have q1 := hbr.cell 1
    have q2 := hbr.cell 2
    have f1 := hbr.frozen 1
    have f2 := hbr.frozen 2
    clear hbr kr hb
    by_cases hjk : j < k
    · have d0 : decide ((j : Int) < (k : Int)) = true := by simp only [decide_eq_true_eq]; omega
      by_cases hend : n ≤ p0 + j
      · have d1 : decide ((n : Int) ≤ ((p0 + j : Nat) : Int)) = true := by simp only [decide_eq_true_eq]; omega
        have HV : Hid (numR k s = (0, ⟨s.rest, 3⟩)) := by show _ = _; rw [numR, takeR_short HE.out (by omega)]; rfl
        rw [HV.out]
        go_upto_region 5 with fail
        go_region
        go_wp2_with fail
        go_ret
        have hkk : Keeps wr (wr.drew.setCell ⟨g, 2, none⟩ (.int .i64 3)) [g] := (Keeps.refl wr [g]).drew.setCell (.inl (by simp)) _
        exact ⟨rfl, H.out.lay (HKr.out.trans hkk) (HBr.out.drew.set_ 2 (.int .i64 3)) (fun h => by cases h), HKr.out.trans hkk⟩
      · have d1 : decide ((n : Int) ≤ ((p0 + j : Nat) : Int)) = false := by simp only [decide_eq_false_iff_not]; omega
        obtain ⟨x, hx⟩ := at_of (l := l) hnl (show p0 + j < n by omega)
        obtain ⟨b, off, v, hA, hb7, hc7, hv7⟩ := H.out.rd (p0 + j) (by rw [u8s_len, hnl]; omega)
        subst hA
        rw [u8s, List.getElem?_map, hx] at hv7
        injection hv7 with hv7
        subst hv7
        have hoff := H.out.off (by intro h; subst h; simp at hx) _ rfl
        have hcx := (HKr.out.cell (p := ⟨b, off + (p0 + j), none⟩) hb7 (by simp; exact hoff.2)).trans hc7
        obtain ⟨x0, x1⟩ := H.out.byte x (List.mem_of_getElem? hx)
        have hxr : s.rest[j]? = some x := by rw [HRest.out, List.getElem?_drop]; exact hx
        have HX := Lib.hid (valB_take hxr)
        have hvl := valB_lt (isByte_take HBy.out j)
        have hvl2 : valB (s.rest.take j) < 16777216 := by
          refine Nat.lt_of_lt_of_le hvl (Nat.le_trans (Nat.pow_le_pow_right (by decide) (show (s.rest.take j).length ≤ 3 by rw [List.length_take]; omega)) (by decide))
        have b0 : (0 : Int) ≤ ((p0 + j : Nat) : Int) := Int.natCast_nonneg _
        have b1 : ((p0 + j : Nat) : Int) < (n : Int) := by omega
        have hadd : 256 * (valB (s.rest.take j) : Int) + x = (valB (s.rest.take (j + 1)) : Nat) := by rw [HX.out]; omega
        clear hx hxr hc7 hvl
        generalize valB (s.rest.take j) = v at *
        go_upto_region 5 with fail
        go_region
        go_upto_region 9 with fail
        go_region
        have hbl : Blk (wr.drew.drew.setCell ⟨g, 1, none⟩ (.int .i64 ((p0 : Int) + (j : Int) + 1))) g 101 #[.slice (some ⟨b, off, none⟩) n c, .int .i64 ((p0 + (j + 1) : Nat) : Int), .int .i64 0] := by
          have := HBr.out.drew.drew.set_ 1 (.int .i64 ((p0 : Int) + (j : Int) + 1))
          rw [show ((p0 + (j + 1) : Nat) : Int) = (p0 : Int) + (j : Int) + 1 by omega]
          exact this
        have HBl := Lib.hid hbl
        have HKl := Lib.hid (HKr.out.drew.drew.setCell (p := ⟨g, 1, none⟩) (.inl (by simp)) (.int .i64 ((p0 : Int) + (j : Int) + 1)))
        clear hbl
        go_wp2_with fail
        go_roundw
        case rel => exact ⟨j + 1, by omega, by omega, by go_num, by first | rfl | trivial, HBl.out, HKl.out⟩
        case measure => simp [intOf]; omega
    · obtain rfl : k = j := by omega
      have d0 : decide ((k : Int) < (k : Int)) = false := by simp
      have HV : Hid (numR k s = (valB (s.rest.take k), ⟨s.rest.drop k, 0⟩)) := by show _ = _; rw [numR, takeR_ok HE.out (by omega)]
      go_wp2_with fail
      go_ret
      rw [HV.out]
      exact ⟨rfl, H.out.lay HKr.out HBr.out (fun _ => ⟨p0 + k, rfl, hpj, by rw [HRest.out, List.drop_drop]⟩), HKr.out⟩
set_option maxRecDepth 20000 in
set_option maxHeartbeats 1600000 in
theorem refRname_any (w : World) (g B : Nat) (A : Option Addr) (n c : Nat) (l : List Int) (s : RdS) (h : RrAt w g B A n c l s) :
    Calls Try.prog 49 #[.pointer (some ⟨g, 0, none⟩)] w (RefRead w g B A n c l (.string (nameR s).1) (nameR s).2) := by
  have HN := Lib.hid (refRnum_any 1 (by omega) w g B A n c l s h)
  have HV : Hid ((nameR s).1 = strB (takeR (numR 1 s).1 (numR 1 s).2).1 ∧ (nameR s).2 = (takeR (numR 1 s).1 (numR 1 s).2).2) := by unfold nameR; exact ⟨rfl, rfl⟩
  have hm : (numR 1 s).1 < 256 := by
    by_cases he : s.err = 0
    · exact numR_lt (k := 1) (rest_byte h he)
    · rw [numR_keep he]; exact Nat.zero_lt_succ _
  clear h
  generalize numR 1 s = r at *
  obtain ⟨m, s1⟩ := r
  replace hm : m < 256 := hm
  go_enter Try.func49, Try.ntmps49
  go_wp2_with fail
  refine HN.out.mono ?_
  rintro e w1 ⟨rfl, h1, k1⟩
  have H1 := Lib.hid h1
  have HK1 := Lib.hid k1
  obtain ⟨p, hb, hp⟩ := h1.ex
  have hnl := h1.len
  have hnc := h1.cap
  have hfew := h1.few
  have q0 := hb.cell 0
  have q1 := hb.cell 1
  have q2 := hb.cell 2
  have f1 := hb.frozen 1
  have f2 := hb.frozen 2
  have HB := Lib.hid hb
  clear hb h1 k1
  by_cases he : s1.err = 0
  case neg =>
    have d0 : (s1.err != 0) = true := by simpa using he
    have d1 : (s1.err == 0) = false := by simpa using he
    have HT := Lib.hid (takeR_bad (n := m) he)
    clear he hp
    go_upto_region 2 with fail
    go_region
    go_wp2_with fail
    go_ret
    exact ⟨by rw [HV.out.1, HT.out]; rfl, by rw [HV.out.2, HT.out]; exact H1.out.keep0 (Keeps.refl _ []).drew, HK1.out.drew⟩
  obtain ⟨p0, hp0, hpn, hrest⟩ := hp he
  subst hp0
  have hrl : s1.rest.length = n - p0 := by rw [hrest, List.length_drop, hnl]
  have HRest := Lib.hid hrest
  have HE := Lib.hid he
  rw [he] at q2 HB
  clear hrest he hp
  by_cases hend : n < p0 + m
  · have d1 : decide ((n : Int) < ((p0 + m : Nat) : Int)) = true := by simp only [decide_eq_true_eq]; omega
    have d1' : decide ((n : Int) < (p0 : Int) + (m : Int)) = true := by simp only [decide_eq_true_eq]; omega
    have HT := Lib.hid (takeR_short (n := m) HE.out (by omega))
    go_upto_region 2 with fail
    go_region
    go_wp2_with fail
    go_ret
    have hkk : Keeps w1 (w1.drew.setCell ⟨g, 2, none⟩ (.int .i64 3)) [g] := (Keeps.refl w1 [g]).drew.setCell (.inl (by simp)) _
    exact ⟨by rw [HV.out.1, HT.out]; rfl, by rw [HV.out.2, HT.out]; exact H1.out.lay hkk (HB.out.drew.set_ 2 (.int .i64 3)) (fun h => by cases h), HK1.out.trans hkk⟩
  · have d1 : decide ((n : Int) < ((p0 + m : Nat) : Int)) = false := by simp only [decide_eq_false_iff_not]; omega
    have d1' : decide ((n : Int) < (p0 : Int) + (m : Int)) = false := by simp only [decide_eq_false_iff_not]; omega
    have HT := Lib.hid (takeR_ok (n := m) HE.out (by omega))
    have b0 : (0 : Int) ≤ (p0 : Int) := by omega
    have b1 : (p0 : Int) ≤ (p0 : Int) + (m : Int) := by omega
    have b2 : (p0 : Int) + (m : Int) ≤ (c : Int) := by omega
    go_upto_region 2 with fail
    go_region
    have hrd : Rd w1.drew.drew (if c = p0 then A else Option.map (fun x => x.add p0) A) (u8s (s1.rest.take m)) := by
      split
      · rw [show m = 0 by omega]
        exact Rd.nil
      · have := (H1.out.rd.tail p0).take m
        rw [HRest.out]
        have h2 : Rd w1 (Option.map (fun x => x.add p0) A) (u8s ((l.drop p0).take m)) := by simpa [u8s, List.map_take, List.map_drop] using this
        exact h2
    have hcv := conv_str (P := Try.prog) w1.drew.drew 22 9 5 (if c = p0 then A else Option.map (fun x => x.add p0) A) m (c - p0) (s1.rest.take m) Try.underlying22 Try.underlying5 Try.underlying9 (by rw [List.length_take]; omega) hrd
    clear hrd
    go_upto_region 6 with fail
    go_region
    have hkk : Keeps w1 (w1.drew.drew.setCell ⟨g, 1, none⟩ (.int .i64 ((p0 : Int) + (m : Int)))) [g] := (Keeps.refl w1 [g]).drew.drew.setCell (.inl (by simp)) _
    have HKK := Lib.hid hkk
    clear hkk
    have hfin : RrAt (w1.drew.drew.setCell ⟨g, 1, none⟩ (.int .i64 ((p0 : Int) + (m : Int)))) g B A n c l ⟨s1.rest.drop m, 0⟩ :=
      H1.out.lay (p := (p0 : Int) + (m : Int)) HKK.out (HB.out.drew.drew.set_ 1 (.int .i64 ((p0 : Int) + (m : Int)))) (fun _ => ⟨p0 + m, by simp, by omega, by rw [HRest.out, List.drop_drop]⟩)
    have HFin := Lib.hid hfin
    clear hfin
    go_wp2_with fail
    all_goals
      go_ret
      refine ⟨by rw [HV.out.1, HT.out]; rfl, ?_, HK1.out.trans HKK.out⟩
      rw [HV.out.2, HT.out]
      have h2 := HFin.out
      first
      | exact h2
      | (rw [h] at h2
         exact h2)
end Go.Proofs.Ytdcjiohbnnipdaa
