/- The statements' own look: is the empty one told? -/
import Derived.Test.YtdcjiohbnnipdaaDec
namespace Go.Proofs.Ytdcjiohbnnipdaa
open Go.RowKit

theorem empty_ok : checkE noObj = 0 := by decide +kernel
theorem empty_len : (encB noObj).length = 17 := by decide +kernel
theorem empty_magic : (encB noObj).take 5 = magicL := by decide +kernel
theorem empty_byte : IsByte (encB noObj) := isByte_app (isByte_body _) (isByte_be _ _)
theorem empty_dec : decB (encB noObj) = (noObj, 0) := by decide +kernel
theorem empty_short : decB ((encB noObj).take 16) = (noObj, 3) := by decide +kernel
theorem empty_long : decB (encB noObj ++ [0]) = (noObj, 4) := by decide +kernel
theorem magic_str : strB magicL = ⟨#[82, 83, 76, 86, 1]⟩ := by rfl

attribute [local irreducible] encB decB checkE
def Enc0 (w : World) (e : Ending) (w' : World) : Prop := ∃ A c, e = .returned (.tuple #[.slice A 17 c, .int .i64 0]) ∧ w'.ownsRow w.heap.size 5 1 (.slice A 17 c) 17 (u8s (encB noObj)) ∧ Keeps w w' []
theorem enc0_any (w : World) : Calls Try.prog 16 #[.agg #[.slice none 0 0, .slice none 0 0, .slice none 0 0, .slice none 0 0]] w (Enc0 w) := by
  refine (encode_any noObj none none none none 0 0 0 0 0 0 0 0 w (noObj_is w) ⟨by decide, by decide, by decide, by decide⟩ rfl rfl rfl rfl).mono ?_
  rintro e w' ⟨k, h⟩
  rw [if_pos empty_ok, empty_len] at h
  obtain ⟨A, c, rfl, ho⟩ := h
  exact ⟨A, c, rfl, ho, k⟩
def Dec0 (x : Int) (w : World) (e : Ending) (w' : World) : Prop := ∃ Aa Af Ap Ac ca cf cp cc, e = .returned (.tuple #[.agg #[.slice Aa 0 ca, .slice Af 0 cf, .slice Ap 0 cp, .slice Ac 0 cc], .int .i64 x]) ∧ Keeps w w' []
theorem dec0_any (A : Option Addr) (n c : Nat) (l : List Int) (x : Int) (w : World) (hl : l.length = n) (hn : n ≤ 65536) (hc : n ≤ c) (hA : Rd w A (u8s l)) (hB : IsByte l) (h : decB l = (noObj, x)) :
    Calls Try.prog 11 #[.slice A n c] w (Dec0 x w) := by
  refine (decode_any A n c l w hl hn hc hA hB).mono ?_
  rw [h]
  rintro e w' ⟨Aa, Af, Ap, Ac, ca, cf, cp, cc, rfl, _, k⟩
  exact ⟨Aa, Af, Ap, Ac, ca, cf, cp, cc, rfl, k⟩
set_option maxRecDepth 100000 in
set_option maxHeartbeats 3200000 in
theorem told_any (w : World) : Calls Try.prog 13 #[] w (Told true w) := by
  have HE := Lib.hid (enc0_any w)
  have hgl : (ByteArray.mk #[82, 83, 76, 86, 1]).toList == (ByteArray.mk #[82, 83, 76, 86, 1]).toList := beq_self_eq_true _
  go_enter Try.func13, Try.ntmps13
  go_wp2_with fail
  refine HE.out.mono ?_
  rintro e w1 ⟨A, c, rfl, ho, k1⟩
  have HO := Lib.hid ho
  have HK1 := Lib.hid k1
  have hroom := own_room ho
  have b0 : (17 : Int) ≤ (c : Int) := by omega
  have b1 : (5 : Int) ≤ (c : Int) := by omega
  have b2 : (16 : Int) ≤ (c : Int) := by omega
  have hcv := conv_str (P := Try.prog) w1 22 9 5 A 5 c magicL Try.underlying22 Try.underlying5 Try.underlying9 rfl (by have := (Rd.of_own ho).take 5; rw [u8s, ← List.map_take, empty_magic] at this; exact this)
  rw [magic_str] at hcv
  have HD1 := Lib.hid (dec0_any A 17 c (encB noObj) 0 w1 empty_len (by omega) hroom.1 (Rd.of_own ho) empty_byte empty_dec)
  clear ho k1
  go_wp2_with fail
  refine HD1.out.mono ?_
  rintro e w2 ⟨Aa, Af, Ap, Ac, ca, cf, cp, cc, rfl, k2⟩
  have k2' := k2.alloc (.cells #[.slice Aa 0 ca, .slice Af 0 cf, .slice Ap 0 cp, .slice Ac 0 cc] 30)
  have HB2 : Hid (Blk (w2.alloc (.cells #[.slice Aa 0 ca, .slice Af 0 cf, .slice Ap 0 cp, .slice Ac 0 cc] 30)) w2.heap.size 30 #[.slice Aa 0 ca, .slice Af 0 cf, .slice Ap 0 cp, .slice Ac 0 cc]) := Blk.new _ _ _
  have HO2 := Lib.hid (own_keep0 HO.out k2')
  have HK2 := Lib.hid (HK1.out.trans k2')
  have HD2 := Lib.hid (dec0_any A 16 c ((encB noObj).take 16) 3 _ (by rw [List.length_take, empty_len]; rfl) (by omega) (by omega) (by rw [u8s, List.map_take]; exact (Rd.of_own HO2.out).take 16) (isByte_take empty_byte 16) empty_short)
  clear k2 k2' HD1 HE hcv
  go_wp2_with fail
  refine HD2.out.mono ?_
  rintro e w3 ⟨Ba, Bf, Bp, Bc, da, df, dp, dc, rfl, k3⟩
  have k3' := k3.alloc (.cells #[.slice Ba 0 da, .slice Bf 0 df, .slice Bp 0 dp, .slice Bc 0 dc] 30)
  have HB3 := Lib.hid (HB2.out.keep k3' (by simp))
  have HO3 := Lib.hid (own_keep0 HO2.out k3')
  have HK3 := Lib.hid (HK2.out.trans k3')
  have hle : w.heap.size ≤ w3.heap.size := by have := HK2.out.size; have := k3.size; omega
  clear k3 k3' HD2
  go_wp2_with (at_builtin; refine wpList_app _ el_u8 rfl (.tmp 39) (.tmp 40) rfl w.heap.size A 17 c (u8s (encB noObj)) rfl (own_keep0 HO3.out ((Keeps.refl _ []).alloc _)) (some ⟨w3.heap.size + 1, 0, none⟩) 1 1 (u8s [0]) (by first | rfl | simp) (by first | exact Rd.one _ _ _ | (have := Rd.one (w3.alloc (.cells #[.slice Ba 0 da, .slice Bf 0 df, .slice Bp 0 dp, .slice Bc 0 dc] 30)) 5 (u8s [0]); simpa [u8s] using this)) rfl (by simp) (u8s_one _) (by omega) (by simp; omega) ?_; intro A1 c1 w4 hown hgrow hat)
  have ho3 := own_keep0 HO3.out ((Keeps.refl _ []).alloc (.cells #[.int .u8 0] 5))
  have HB4 := Lib.hid (blk_far (HB3.out.alloc (.cells #[.int .u8 0] 5)) ho3 (by decide) hgrow)
  have k4 := (HK3.out.alloc (.cells #[.int .u8 0] 5)).app ho3 (Nat.le_refl _) hgrow
  have HK4 := Lib.hid k4
  have hroom4 := own_room hown
  have HD4 := Lib.hid (dec0_any A1 18 c1 (encB noObj ++ [0]) 4 w4 (by rw [List.length_append, empty_len]; rfl) (by omega) hroom4.1 (by rw [u8s_app]; exact Rd.of_own hown) (isByte_app empty_byte (by unfold IsByte; decide)) empty_long)
  clear hown hgrow hat ho3 k4
  go_wp2_with fail
  refine HD4.out.mono ?_
  rintro e w5 ⟨Ca, Cf, Cp, Cc, fa, ff, fp, fc, rfl, k5⟩
  have k5' := k5.alloc (.cells #[.slice Ca 0 fa, .slice Cf 0 ff, .slice Cp 0 fp, .slice Cc 0 fc] 30)
  have HB5 := Lib.hid (HB4.out.keep k5' (by simp))
  have HK5 := Lib.hid (HK4.out.trans k5')
  have q3 := HB5.out.cell 3
  clear k5 k5' HD4
  go_wp2_with fail
  go_ret
  exact ⟨rfl, HK5.out⟩
end Go.Proofs.Ytdcjiohbnnipdaa
