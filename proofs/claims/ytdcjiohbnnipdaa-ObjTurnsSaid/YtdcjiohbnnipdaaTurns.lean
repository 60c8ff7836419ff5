/- ObjTurns: the plain law and the walk. -/
import Derived.Test.YtdcjiohbnnipdaaFix
import Derived.Test.YtdcjiohbnnipdaaTold
import Derived.Test.YtdcjiohbnnipdaaCrcTurnLaw
import Derived.Test.YtdcjiohbnnipdaaEncLen
import Derived.BigRegion
import Derived.BigQuiet
import Derived.Deep.QuietTactic
namespace Go.Proofs.Ytdcjiohbnnipdaa
open Go.RowKit

theorem turn_left (a b : List Int) (k : Nat) (x : BitVec 32) : ∀ j, k + j ≤ 8 * a.length → Crc.turn (a ++ b) k x j = Crc.turn a k x j ++ b
  | 0, _ => rfl
  | j + 1, h => by
    have ih := turn_left a b k x j (by omega)
    have hl := Crc.turn_length a k x j
    rw [Crc.turn, Crc.turn, ih]
    split
    · have hp : (k + j) / 8 < (Crc.turn a k x j).length := by rw [hl]; omega
      rw [List.set_append_left _ _ hp]
      congr 2
      rw [List.getD_eq_getElem?_getD, List.getD_eq_getElem?_getD, List.getElem?_append_left hp]
    · rfl
theorem sum_inj {a b : List Int} (h : sumB a = sumB b) : Crc.go 0#32 a = Crc.go 0#32 b := by
  have h1 := Crc.int_bd (Crc.go 0#32 a)
  have h2 := Crc.int_bd (Crc.go 0#32 b)
  have h3 := congrArg valB h
  unfold sumB at h3
  rw [valB_be 4 _ (by omega), valB_be 4 _ (by omega)] at h3
  exact Crc.int_inj (by omega)
/-- Bytes of which bits ahead of the sum are turned aren't decoded. -/
theorem dec_turned {o : LObj} {k : Nat} {x : BitVec 32} (hx : x ≠ 0#32) (hk : k + 32 ≤ 8 * (bodyB o).length) : (decB (Crc.turn (encB o) k x 32)).2 ≠ 0 := by
  intro h0
  have hb : IsByte (Crc.turn (encB o) k x 32) := Crc.turn_byte _ _ _ (isByte_app (isByte_body o) (isByte_be _ _)) 32
  obtain ⟨o', ho'⟩ : ∃ o', (decB (Crc.turn (encB o) k x 32)).1 = o' := ⟨_, rfl⟩
  have hd : decB (Crc.turn (encB o) k x 32) = (o', 0) := by rw [← ho', ← h0]
  obtain ⟨_, he⟩ := enc_dec hb hd
  rw [encB, encB, turn_left _ _ _ _ 32 hk] at he
  have hlen : (sumB (bodyB o')).length = (sumB (bodyB o)).length := by rw [sumB, sumB, be_len, be_len]
  obtain ⟨h1, h2⟩ := List.append_inj' he hlen
  rw [h1] at h2
  exact Crc.turn_ne (bodyB o) k x (isByte_body o) hx hk 0#32 (sum_inj h2).symm
theorem enc_byte (o : LObj) : IsByte (encB o) := isByte_app (isByte_body o) (isByte_be _ _)
theorem body_long (o : LObj) : 13 ≤ (bodyB o).length := by
  rw [bodyB, headB]
  simp only [List.length_append, be_len, List.length_cons, List.length_nil]
  omega
attribute [local irreducible] encB decB checkE bodyB Crc.turn
set_option maxRecDepth 100000 in
set_option maxHeartbeats 6400000 in
theorem turns_any (o : LObj) (at_ by_ : Int) (Aa Af Ap Ac : Option Addr) (na nf np nc ca cf cp cc : Nat) (w : World) (h : ObIs w o Aa Af Ap Ac ca cf cp cc) (hg : GoodO o)
    (la : o.atoms.length = na) (lf : o.funs.length = nf) (lp : o.preds.length = np) (lc : o.code.length = nc) (hy0 : 0 ≤ by_) (hy1 : by_ < 4294967296) :
    Calls Try.prog 4 #[.agg #[.slice Aa na ca, .slice Af nf cf, .slice Ap np cp, .slice Ac nc cc], .int .i64 at_, .int .u32 by_] w (Told true w) := by
  have HF : Hid (∀ W, Keeps w W [] → Calls Try.prog 18 #[.agg #[.slice Aa na ca, .slice Af nf cf, .slice Ap np cp, .slice Ac nc cc]] W (FixDone W)) := fun W k => by
    have := fix_any o Aa Af Ap Ac ca cf cp cc W (h.keep k) hg
    rw [la, lf, lp, lc] at this
    exact this
  clear h hg la lf lp lc
  go_enter Try.func4, Try.ntmps4
  go_wp2_with fail
  have k0 : Keeps w (w.alloc (.cells #[.slice Aa na ca, .slice Af nf cf, .slice Ap np cp, .slice Ac nc cc] 38)) [] := (Keeps.refl w []).alloc _
  refine (HF.out _ k0).mono ?_
  rintro e w1 ⟨f, hf0, hff, Ca, Cf, Cp, Cc, ea, ef, ep, ec, rfl, hfo, _, k1⟩
  have hbl := body_long f
  have HTurn := Lib.hid (fun (k : Nat) (x : BitVec 32) (hx : x ≠ 0#32) hk => dec_turned (o := f) (k := k) (x := x) hx hk)
  have k01 := k0.trans k1
  go_wp2_with fail
  refine (to_any f Ca Cf Cp Cc _ _ _ _ ea ef ep ec w1 hfo hff rfl rfl rfl rfl).mono ?_
  rintro e w2 ⟨Da, Df, Dp, Dc, ga, gf, gp, gc, rfl, hto, k2⟩
  have k02 := k01.trans k2
  go_wp2_with fail
  refine (encode_any f _ _ _ _ _ _ _ _ _ _ _ _ _ hto hff rfl rfl rfl rfl).mono ?_
  rintro e w3 ⟨k3, hE⟩
  rw [if_pos hf0] at hE
  obtain ⟨A, c, rfl, ho⟩ := hE
  have hB := enc_byte f
  have hfit := enc_len hf0
  have hel : (encB f).length = (bodyB f).length + 4 := by rw [encB, List.length_append, sumB, be_len]
  obtain ⟨L, hL⟩ : ∃ L, encB f = L := ⟨_, rfl⟩
  obtain ⟨n, hn⟩ : ∃ n, L.length = n := ⟨_, rfl⟩
  rw [hL] at ho hB hel hfit ⊢
  rw [hn] at ho hel hfit ⊢
  have hdt : ∀ k : Nat, k + 32 ≤ 8 * (n - 4) → ∀ x : BitVec 32, x ≠ 0#32 → (decB (Crc.turn L k x 32)).2 ≠ 0 := fun k hk x hx => by
    have := HTurn.out k x hx (by omega)
    rwa [hL] at this
  have HDt := Lib.hid hdt
  have hn17 : 17 ≤ n := by omega
  have HB := Lib.hid hB
  have HN := Lib.hid hn
  have HO3 := Lib.hid ho
  have HK3 := Lib.hid (k02.trans k3)
  have hlow : w.heap.size ≤ w2.heap.size := k02.size
  clear hdt hL hB hn ho k0 k1 k01 k2 k02 k3 hto hfo hf0 hff HTurn HF hel hbl
  go_wp2_with fail
  refine (told_any _).mono ?_
  rintro e w4 ⟨rfl, k4⟩
  by_cases hby : by_ = 0
  · have d0 : (by_ == 0) = true := by simpa using hby
    go_wp2_with fail
    refine (told_any _).mono ?_
    rintro e w5 ⟨rfl, k5⟩
    go_wp2_with fail
    go_ret
    exact ⟨rfl, (HK3.out.trans k4).trans k5⟩
  have d0 : (by_ == 0) = false := by simpa using hby
  have hyp : 0 < by_ := by omega
  obtain ⟨g, hA⟩ : ∃ g, A = some ⟨g, 0, none⟩ := by
    rcases HO3.out.2 with ⟨h2, h3⟩ | ⟨g, cap, cur, h2, _⟩
    · omega
    · injection h2 with h2
      exact ⟨g, h2⟩
  subst hA
  have HO4 := Lib.hid (own_keep0 HO3.out k4)
  have HK4 := Lib.hid (HK3.out.trans k4)
  have hg0 : w.heap.size ≤ g := by have := (HO3.out.lt g rfl).1; omega
  have hroom := (own_room HO3.out).1
  obtain ⟨U, hU⟩ : ∃ U, IntKind.u64.wrap at_ = U := ⟨_, rfl⟩
  have hU0 : 0 ≤ U := by rw [← hU]; simp only [IntKind.wrap, IntKind.bits, IntKind.signed, Bool.false_and, Bool.false_eq_true, if_false]; omega
  have hwM : IntKind.u64.wrap (8 * ((n : Int) - 4) - 31) = 8 * ((n : Int) - 4) - 31 := by simp only [IntKind.wrap, IntKind.bits, IntKind.signed, Bool.false_and, Bool.false_eq_true, if_false]; omega
  have hM0 : (0 : Int) < 8 * ((n : Int) - 4) - 31 := by omega
  obtain ⟨k, hk⟩ : ∃ k : Nat, U.tmod (8 * ((n : Int) - 4) - 31) = k := Int.eq_ofNat_of_zero_le (Int.tmod_nonneg _ hU0)
  have hkl : (k : Int) < 8 * ((n : Int) - 4) - 31 := by rw [← hk]; exact Int.tmod_lt_of_pos _ hM0
  have hk' : U % (8 * ((n : Int) - 4) - 31) = k := by rw [← hk, Int.tmod_eq_emod_of_nonneg hU0]
  have hwk : IntKind.i64.wrap (k : Int) = k := by simp only [IntKind.wrap_i64]; omega
  have hk32 : k + 32 ≤ 8 * (n - 4) := by omega
  have hz : ((8 * ((n : Int) - 4) - 31) == 0) = false := by simp; omega
  clear HO3 HK3 k4
  go_wp2_with fail
  go_loopw [10] (fun i wr => ∃ j : Nat, j ≤ 32 ∧ i = .int .i64 j ∧ ∃ l2 : List Int, l2.length = n ∧ l2 = Crc.turn L k (BitVec.ofInt 32 by_) j ∧ wr.ownsRow w2.heap.size 5 1 (.slice (some ⟨g, 0, none⟩) n c) n (u8s l2) ∧ Keeps w wr []) (fun i _ => 32 - (intOf i).toNat)
  case atStart => exact ⟨0, by omega, rfl, L, HN.out, by unfold Crc.turn; rfl, HO4.out, HK4.out⟩
  case round =>
    clear HO4 HK4
    obtain ⟨j, hj, rfl, l2, hl2, ht, hown2, kr⟩ := hrel
    have HT := Lib.hid ht
    have HKr := Lib.hid kr
    have HL2 := Lib.hid hl2
    have HO := Lib.hid hown2
    clear ht kr hown2
    by_cases hj32 : j < 32
    · by_cases hbit : ((by_ / 2 ^ j).tmod 2 == 1) = true
      · have hp : (k + j) / 8 < n := by omega
        have hlen2 : (k + j) / 8 < l2.length := by rw [hl2]; exact hp
        obtain ⟨v, hv⟩ : ∃ v, l2[(k + j) / 8]? = some v := ⟨_, List.getElem?_eq_getElem hlen2⟩
        have hcell : wr.cell? ⟨g, (k + j) / 8, none⟩ = some (.int .u8 v) := by rw [HO.out.cellAt _ (by omega), u8s, List.getElem?_map, hv]; rfl
        have hfr : wr.frozen? ⟨g, (k + j) / 8, none⟩ = false := HO.out.frozenAt _
        have HV := Lib.hid hv
        have HNx : Hid (Crc.turn L k (BitVec.ofInt 32 by_) (j + 1) = l2.set ((k + j) / 8) (Crc.flip v ((k + j) % 8))) := by
          have hx : (BitVec.ofInt 32 by_).getLsbD j = true := by rw [← Crc.word_bit by_ hyp j hj32]; exact hbit
          show Crc.turn L k (BitVec.ofInt 32 by_) (j + 1) = _
          rw [Crc.turn, if_pos hx, ← HT.out, show l2.getD ((k + j) / 8) 0 = v by simp [List.getD, hv]]
        clear hv hlen2 hl2
        have b1 : (0 : Int) ≤ ((k : Int) + j) / 8 := by omega
        have b2 : ((k : Int) + j) / 8 < n := by omega
        have b3 : (0 : Int) ≤ ((k : Int) + j) % 8 := by omega
        go_wp2_with fail
        go_region
        go_wp2_with fail
        go_roundw
        case rel =>
          have hst := HO.out.stored ((k + j) / 8) (.int .u8 (Crc.flip v ((k + j) % 8)))
          refine ⟨j + 1, by omega, by go_num, l2.set ((k + j) / 8) (Crc.flip v ((k + j) % 8)), by rw [List.length_set]; exact HL2.out, HNx.out.symm, ?_, ?_⟩
          · rw [u8s, List.map_set]
            exact own_keep0 hst.1 (Keeps.refl _ []).drew
          · exact (HKr.out.setCell (.inr hg0) _).drew
        case measure => simp [intOf]; omega
      · have hbit' : ((by_ / 2 ^ j).tmod 2 == 1) = false := by simpa using hbit
        have HNx : Hid (Crc.turn L k (BitVec.ofInt 32 by_) (j + 1) = l2) := by
          have hx : ¬ (BitVec.ofInt 32 by_).getLsbD j = true := by rw [← Crc.word_bit by_ hyp j hj32]; exact hbit
          show Crc.turn L k (BitVec.ofInt 32 by_) (j + 1) = _
          rw [Crc.turn, if_neg hx, ← HT.out]
        clear hbit hl2
        go_wp2_with fail
        go_roundw
        case rel => exact ⟨j + 1, by omega, by go_num, l2, HL2.out, HNx.out.symm, HO.out, HKr.out⟩
        case measure => simp [intOf]; omega
    · obtain rfl : j = 32 := by omega
      have hne := HDt.out k hk32 (BitVec.ofInt 32 by_) (Crc.word_ne by_ hyp hy1)
      rw [← HT.out] at hne
      have HB2 : Hid (IsByte l2) := by
        show IsByte l2
        rw [HT.out]
        exact Crc.turn_byte L k (BitVec.ofInt 32 by_) HB.out 32
      have hd : ((decB l2).2 != 0) = true := by simpa using hne
      have hdec := decode_any (some ⟨g, 0, none⟩) n c l2 wr hl2 hfit hroom (Rd.of_own HO.out) HB2.out
      clear hne hl2
      generalize decB l2 = r at *
      obtain ⟨o2, e2⟩ := r
      have HDc := Lib.hid hdec
      clear hdec
      simp only at hd
      go_wp2_with fail
      refine HDc.out.mono ?_
      rintro e w9 ⟨Ea, Ef, Ep, Ec, xa, xf, xp, xc, rfl, _, k9⟩
      go_wp2_with fail
      go_ret
      exact ⟨rfl, HKr.out.trans k9⟩
end Go.Proofs.Ytdcjiohbnnipdaa
