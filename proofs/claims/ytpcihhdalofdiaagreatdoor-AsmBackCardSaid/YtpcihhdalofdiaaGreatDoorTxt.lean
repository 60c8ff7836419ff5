/- Operands and instructions in words: the program's text, Text. -/
import Derived.Test.YtpcihhdalofdiaaGreatDoorCodeLaw
import Derived.Test.YtpcihhdalofdiaaGreatDoorNum
import Derived.Test.YtpcihhdalofdiaaGreatDoorShelf
import Derived.Test.YtpcihhdalofdiaaGreatDoorApp
import Derived.Lib.SmallJoins
namespace Go.Proofs.YtpcihhdalofdiaaGreatDoor
open Go.RowKit

def stB (l : Txt) : ByteArray := ⟨l.toArray⟩
theorem stB_app (a b : Txt) : stB a ++ stB b = stB (a ++ b) := ByteArray.mk_append_mk a b
theorem stB_size (l : Txt) : (stB l).size = l.length := by simp [stB, ByteArray.size]
theorem stB_list (l : Txt) : (stB l).data.toList = l := by simp [stB]
theorem stB_of (s : ByteArray) : stB s.data.toList = s := by cases s; simp [stB]
theorem digits_stB (n : Nat) : digits n = stB (Lib.decDigits n) := rfl
theorem keeps_growN (w : World) (k : Nat) (os : Array Obj) : Keeps w (Sort.grow (w.drewN k) os) [] :=
  ⟨rfl, rfl, rfl, by simp, fun i hi _ => by
    show ((w.drewN k).heap ++ os)[i]? = _
    rw [Array.getElem?_append_left (by simpa using hi)]
    rfl⟩
/-- The table that Itoa reads. -/
def Tab (w : World) : Prop := Lib.TabIs Tryz.prog w "internal/strconv.uint64pow10" .u64 Lib.pow10Tab
theorem Tab.keep {w w' : World} (h : Tab w) (k : Keeps w w' []) : Tab w' :=
  Joins.tab_stays (g := 0) (B := w.heap.size) (by kernel_rfl) h ⟨k.os, k.tape, k.output, k.size, fun i hi => k.block i hi (by simp)⟩ (Nat.le_refl _)
theorem itoa_any (n : Nat) (hn : n ≤ 9223372036854775807) (w : World) (ht : Tab w) :
    Calls Tryz.prog 35 #[.int .i64 n] w fun e w' => e = .returned (.string (stB (Lib.decDigits n))) ∧ Keeps w w' [] := by
  refine (Tryz.strconv_Itoa n (by omega) (by omega) w ht).mono ?_
  rintro e w' ⟨rfl, k, os, rfl⟩
  have e1 : Lib.itoa (n : Int) = Lib.decDigits n := by
    unfold Lib.itoa
    rw [if_neg (by omega)]
    simp
  exact ⟨by rw [e1]; rfl, keeps_growN w k os⟩
theorem add_one {n : Nat} (m : UInt8) (h : n ≤ 65535) (w : World) : (Op.stringOp .add (⟨#[m]⟩ : ByteArray) (stB (Lib.decDigits n))).run Tryz.prog w = .ok (.string (stB (m :: Lib.decDigits n))) w := by
  rw [run_string_add_sum (P := Tryz.prog) w _ _ (by
    have h1 := (digits_len n h).2
    have : (⟨#[m]⟩ : ByteArray).size = 1 := rfl
    rw [stB_size]
    omega)]
  have : (⟨#[m]⟩ : ByteArray) ++ stB (Lib.decDigits n) = stB (m :: Lib.decDigits n) := stB_app [m] _
  rw [this]
set_option maxHeartbeats 1600000 in
theorem text_any (k n : Nat) (hn : n ≤ 65535) (w : World) (ht : Tab w) :
    Calls Tryz.prog 96 #[.int .i64 k, .int .i64 n] w fun e w' => e = .returned (.string (stB (opTxt k n))) ∧ Keeps w w' [] := by
  by_cases h1 : k = 1
  · subst h1
    have d1 : (((1 : Nat) : Int) == 1) = true := rfl
    by_cases h16 : 16 ≤ n
    · have d2 : decide (16 ≤ (n : Int)) = true := by simp only [decide_eq_true_eq]; omega
      have HV : Hid (opTxt 1 n = 89 :: Lib.decDigits (n - 16)) := if_pos ⟨rfl, h16⟩
      have hi := itoa_any (n - 16) (by omega) w ht
      rw [show (((n - 16 : Nat) : Int)) = (n : Int) - 16 by omega] at hi
      have HI := Lib.hid hi
      have ha := add_one (n := n - 16) 89 (by omega)
      clear hi ht
      go_enter Tryz.func96, Tryz.ntmps96
      go_wp2_with fail
      refine HI.out.mono ?_
      rintro e w1 ⟨rfl, k1⟩
      go_wp2_with fail
      go_ret
      exact ⟨by rw [HV.out]; rfl, k1⟩
    · have d2 : decide (16 ≤ (n : Int)) = false := by simp only [decide_eq_false_iff_not]; omega
      have HV : Hid (opTxt 1 n = 88 :: Lib.decDigits n) := by show _ = _; rw [opTxt, if_neg (fun h => h16 h.2), if_pos (.inl rfl)]
      have HI := Lib.hid (itoa_any n (by omega) w ht)
      have ha := add_one (n := n) 88 hn
      clear ht
      go_enter Tryz.func96, Tryz.ntmps96
      go_wp2_with fail
      refine HI.out.mono ?_
      rintro e w1 ⟨rfl, k1⟩
      go_wp2_with fail
      go_ret
      exact ⟨by rw [HV.out]; rfl, k1⟩
  have d1 : ((k : Int) == 1) = false := by simp; omega
  by_cases h2 : k = 2
  · have d2 : ((k : Int) == 2) = true := by simp; omega
    have HV : Hid (opTxt k n = 88 :: Lib.decDigits n) := by show _ = _; rw [opTxt, if_neg (fun h => h1 h.1), if_pos (.inr h2)]
    have HI := Lib.hid (itoa_any n (by omega) w ht)
    have ha := add_one (n := n) 88 hn
    clear ht
    go_enter Tryz.func96, Tryz.ntmps96
    go_wp2_with fail
    refine HI.out.mono ?_
    rintro e w1 ⟨rfl, k1⟩
    go_wp2_with fail
    go_ret
    exact ⟨by rw [HV.out]; rfl, k1⟩
  have d2 : ((k : Int) == 2) = false := by simp; omega
  by_cases h9 : k = 9
  · have d3 : ((k : Int) == 9) = true := by simp; omega
    have HV : Hid (opTxt k n = 89 :: Lib.decDigits n) := by show _ = _; rw [opTxt, if_neg (fun h => h1 h.1), if_neg (by omega), if_pos h9]
    have HI := Lib.hid (itoa_any n (by omega) w ht)
    have ha := add_one (n := n) 89 hn
    clear ht
    go_enter Tryz.func96, Tryz.ntmps96
    go_wp2_with fail
    refine HI.out.mono ?_
    rintro e w1 ⟨rfl, k1⟩
    go_wp2_with fail
    go_ret
    exact ⟨by rw [HV.out]; rfl, k1⟩
  have d3 : ((k : Int) == 9) = false := by simp; omega
  by_cases h6 : n = 65535
  · have d4 : ((n : Int) == 65535) = true := by simp; omega
    have HV : Hid (opTxt k n = [45]) := by show _ = _; rw [opTxt, if_neg (fun h => h1 h.1), if_neg (by omega), if_neg h9, if_pos h6]
    clear ht
    go_enter Tryz.func96, Tryz.ntmps96
    go_wp2_with fail
    go_ret
    exact ⟨by rw [HV.out]; rfl, Keeps.refl _ _⟩
  · have d4 : ((n : Int) == 65535) = false := by simp; omega
    have HV : Hid (opTxt k n = Lib.decDigits n) := by show _ = _; rw [opTxt, if_neg (fun h => h1 h.1), if_neg (by omega), if_neg h9, if_neg h6]
    have HI := Lib.hid (itoa_any n (by omega) w ht)
    clear ht
    go_enter Tryz.func96, Tryz.ntmps96
    go_wp2_with fail
    refine HI.out.mono ?_
    rintro e w1 ⟨rfl, k1⟩
    go_wp2_with fail
    go_ret
    exact ⟨by rw [HV.out]; rfl, k1⟩
end Go.Proofs.YtpcihhdalofdiaaGreatDoor
