/- Names: the program's and the document's look at them. -/
import Derived.Test.YtpcihhdalofdiaaGreatDoorBytes
import Derived.BigRegion
import Derived.BigQuiet
import Derived.Deep.QuietTactic
import Derived.RegionTactic
namespace Go.Proofs.YtpcihhdalofdiaaGreatDoor
open Go.RowKit

def isSmall (c : Int) : Bool := decide (97 ≤ c) && decide (c ≤ 122)
def isDigit (c : Int) : Bool := decide (48 ≤ c) && decide (c ≤ 57)
def nameOk (s : ByteArray) : Bool := decide (1 ≤ s.size) && decide (s.size ≤ 32) && isSmall ((bytesOf s).getD 0 0) && (bytesOf s).all fun c => isSmall c || isDigit c

set_option maxHeartbeats 400000 in
theorem small_any (c : Int) (w : World) : Calls Tryz.prog 88 #[.int .u8 c] w fun e w' => e = .returned (.bool (isSmall c)) ∧ w = w' := by
  have HR : Hid (isSmall c = (decide (97 ≤ c) && decide (c ≤ 122))) := rfl
  cases d1 : decide (97 ≤ c) <;> cases d2 : decide (c ≤ 122) <;>
  (rw [d1, d2] at HR
   go_enter Tryz.func88, Tryz.ntmps88
   go_wp2_with fail
   go_ret
   exact ⟨by rw [HR.out]; rfl, rfl⟩)
set_option maxHeartbeats 400000 in
theorem digit_any (c : Int) (w : World) : Calls Tryz.prog 91 #[.int .u8 c] w fun e w' => e = .returned (.bool (isDigit c)) ∧ w = w' := by
  have HR : Hid (isDigit c = (decide (48 ≤ c) && decide (c ≤ 57))) := rfl
  cases d1 : decide (48 ≤ c) <;> cases d2 : decide (c ≤ 57) <;>
  (rw [d1, d2] at HR
   go_enter Tryz.func91, Tryz.ntmps91
   go_wp2_with fail
   go_ret
   exact ⟨by rw [HR.out]; rfl, rfl⟩)
/-- What may not stand in a name. -/
def odd1 (c : Int) : Bool := !isSmall c && !isDigit c
set_option maxHeartbeats 400000 in
theorem odd_any (c : Int) (w : World) : Calls Tryz.prog 90 #[.int .u8 c] w fun e w' => e = .returned (.bool (odd1 c)) ∧ w = w' := by
  have HR : Hid (odd1 c = (!isSmall c && !isDigit c)) := rfl
  cases d1 : isSmall c with
  | true =>
    rw [d1] at HR
    have hc := small_any c
    rw [d1] at hc
    have HC := Lib.hid hc
    clear hc
    go_enter Tryz.func90, Tryz.ntmps90
    go_wp2_with (go_at_call 88; refine (HC.out _).mono ?_; rintro e w' ⟨rfl, rfl⟩)
    go_ret
    exact ⟨by rw [HR.out]; rfl, rfl⟩
  | false =>
    rw [d1] at HR
    have hc := small_any c
    rw [d1] at hc
    have HC := Lib.hid hc
    clear hc
    cases d2 : isDigit c
    all_goals
      rw [d2] at HR
      have hd := digit_any c
      rw [d2] at hd
      have HD := Lib.hid hd
      clear hd
      go_enter Tryz.func90, Tryz.ntmps90
      go_wp2_with (first | (go_at_call 88; refine (HC.out _).mono ?_; rintro e w' ⟨rfl, rfl⟩) | (go_at_call 91; refine (HD.out _).mono ?_; rintro e w' ⟨rfl, rfl⟩))
      go_ret
      exact ⟨by rw [HR.out]; rfl, rfl⟩

set_option maxHeartbeats 400000 in
theorem indexBytes_any (A : Option Addr) (n c : Nat) (l : List Int) (w : World) (hl : l.length = n) (hn : n ≤ 65536) (hA : Nums .u8 w w.heap.size A l) :
    Calls Tryz.prog 117 #[.slice A n c, .func (.func 90) #[] #[]] w fun e w' => e = .returned (.int .i64 (findI odd1 l)) ∧ w = w' := by
  have HL := Lib.hid hl
  have HA := Lib.hid hA
  clear hl hA
  go_enter Tryz.func117, Tryz.ntmps117
  go_wp2_with fail
  go_loop [8] (fun i => ∃ k : Nat, k ≤ n ∧ i = .int .i64 k ∧ Hid (∀ y ∈ l.take k, odd1 y = false)) (fun i => n - (intOf i).toNat)
  case atStart => exact ⟨0, Nat.zero_le _, rfl, fun y hy => by simp at hy⟩
  case round =>
    obtain ⟨k, hk, rfl, HB⟩ := hrel
    by_cases hlt : k < n
    · obtain ⟨b, off, x, rfl, _, hc, hx⟩ := HA.out k (by rw [HL.out]; exact hlt)
      have HX := Lib.hid hx
      clear hx
      cases hp : odd1 x with
      | true =>
        have HI : Hid (findI odd1 l = (k : Int)) := findI_some HX.out hp HB.out
        go_wp2_with (go_at_call 90; refine (odd_any x _).mono ?_; rintro e w' ⟨rfl, rfl⟩)
        go_ret
        exact ⟨by rw [HI.out]; rfl, rfl⟩
      | false =>
        have HB2 : Hid (∀ y ∈ l.take (k + 1), odd1 y = false) := take_snoc_all HX.out hp HB.out
        go_wp2_with (go_at_call 90; refine (odd_any x _).mono ?_; rintro e w' ⟨rfl, rfl⟩)
        go_round
        case rel => exact ⟨k + 1, by omega, by go_num, HB2⟩
        case measure => simp [intOf]; omega
    · obtain rfl : n = k := by omega
      have HI : Hid (findI odd1 l = -1) := findI_none (by have := HB.out; rwa [List.take_of_length_le (by rw [HL.out]; omega)] at this)
      go_wp2_with fail
      go_ret
      exact ⟨by rw [HI.out]; rfl, rfl⟩
set_option maxHeartbeats 400000 in
theorem containsBytes_any (A : Option Addr) (n c : Nat) (l : List Int) (w : World) (hl : l.length = n) (hn : n ≤ 65536) (hA : Nums .u8 w w.heap.size A l) :
    Calls Tryz.prog 89 #[.slice A n c, .func (.func 90) #[] #[]] w fun e w' => e = .returned (.bool (l.any odd1)) ∧ w = w' := by
  have HF := Lib.hid (findI_nonneg odd1 l)
  have HC := Lib.hid (indexBytes_any A n c l w hl hn hA)
  clear hl hA hn
  generalize findI odd1 l = f at *
  go_enter Tryz.func89, Tryz.ntmps89
  go_wp2_with (go_at_call 117; refine HC.out.mono ?_; rintro e w' ⟨rfl, rfl⟩)
  go_ret
  exact ⟨by rw [← HF.out]; rfl, rfl⟩

theorem nameOk_none {s : ByteArray} (h : s.size = 0) : nameOk s = false := by simp [nameOk, h]
theorem nameOk_long {s : ByteArray} (h : 32 < s.size) : nameOk s = false := by
  have : ¬ s.size ≤ 32 := by omega
  simp [nameOk, this]
theorem bytesOf_first (s : ByteArray) (h : 0 < s.size) : (bytesOf s).getD 0 0 = (s[0].toNat : Int) := by
  rw [List.getD_eq_getElem?_getD, bytesOf_at s 0 h]
  rfl
theorem nameOk_first {s : ByteArray} (h : 0 < s.size) (h2 : isSmall (s[0].toNat : Int) = false) : nameOk s = false := by
  rw [nameOk, bytesOf_first s h, h2]
  simp
theorem nameOk_rest {s : ByteArray} (h : 0 < s.size) (h1 : ¬ 32 < s.size) (h2 : isSmall (s[0].toNat : Int) = true) : nameOk s = !(bytesOf s).any odd1 := by
  rw [nameOk, bytesOf_first s h, h2]
  have a1 : 1 ≤ s.size := h
  have a2 : s.size ≤ 32 := by omega
  simp only [a1, a2, decide_true, Bool.true_and, Bool.and_true]
  rw [List.all_eq_not_any_not]
  congr 2
  funext c
  simp [odd1]
set_option maxHeartbeats 400000 in
theorem name_any (s : ByteArray) (w : World) : Calls Tryz.prog 58 #[.string s] w fun e w' => e = .returned (.bool (nameOk s)) ∧ Keeps w w' [] := by
  by_cases h0 : s.size = 0
  · have h1 := strEmpty s h0
    have HN := Lib.hid (nameOk_none h0)
    clear h0
    go_enter Tryz.func58, Tryz.ntmps58
    go_wp2_with fail
    go_ret
    exact ⟨by rw [HN.out]; rfl, Keeps.refl _ _⟩
  · have h1 := strFull s h0
    by_cases h2 : 32 < s.size
    · have d2 : decide ((32 : Int) < s.size) = true := by simp; omega
      have HN := Lib.hid (nameOk_long h2)
      go_enter Tryz.func58, Tryz.ntmps58
      go_wp2_with fail
      go_ret
      exact ⟨by rw [HN.out]; rfl, Keeps.refl _ _⟩
    · have d2 : decide ((32 : Int) < s.size) = false := by simp; omega
      have h3 : 0 < s.size := by omega
      clear h0
      obtain ⟨c, w1, hrun, hN, hK⟩ := conv_bytes (P := Tryz.prog) w 9 138 5 s Tryz.underlying9 Tryz.underlying138 Tryz.underlying5
      have HNum := Lib.hid hN
      have HK := Lib.hid hK
      clear hN hK
      have hsm := small_any (s[0].toNat : Int)
      cases d3 : isSmall (s[0].toNat : Int)
      · have HN := Lib.hid (nameOk_first h3 d3)
        rw [d3] at hsm
        have HS := Lib.hid hsm
        clear hsm
        go_enter Tryz.func58, Tryz.ntmps58
        go_wp2_with (go_at_call 88; refine (HS.out _).mono ?_; rintro e w' ⟨rfl, rfl⟩)
        go_ret
        exact ⟨by rw [HN.out]; rfl, Keeps.refl _ _⟩
      · have HN := Lib.hid (nameOk_rest h3 h2 d3)
        rw [d3] at hsm
        have HS := Lib.hid hsm
        clear hsm
        have HC := Lib.hid (containsBytes_any (some ⟨w.heap.size, 0, none⟩) s.size c (bytesOf s) w1 (bytesOf_len s) (by omega) HNum.out)
        generalize (bytesOf s).any odd1 = q at *
        go_enter Tryz.func58, Tryz.ntmps58
        go_wp2_with (first | (go_at_call 88; refine (HS.out _).mono ?_; rintro e w' ⟨rfl, rfl⟩) | (go_at_call 89; refine HC.out.mono ?_; rintro e w' ⟨rfl, rfl⟩))
        go_ret
        exact ⟨by rw [HN.out]; rfl, HK.out⟩

theorem odd1_mid {c : Int} (h : 97 ≤ c ∧ c ≤ 122 ∨ 48 ≤ c ∧ c ≤ 57) : odd1 c = false := by
  rcases h with ⟨h, h'⟩ | ⟨h, h'⟩ <;> simp [odd1, isSmall, isDigit, h, h']
theorem odd1_out {c : Int} (h : c < 48 ∨ (57 < c ∧ c < 97) ∨ 122 < c) : odd1 c = true := by
  simp only [odd1, isSmall, isDigit, Bool.and_eq_true, Bool.not_eq_true', Bool.and_eq_false_iff, decide_eq_false_iff_not]
  omega
theorem small_out {c : Int} (h : c < 97 ∨ 122 < c) : isSmall c = false := by
  simp only [isSmall, Bool.and_eq_false_iff, decide_eq_false_iff_not]
  omega
theorem small_in {c : Int} (h : 97 ≤ c ∧ c ≤ 122) : isSmall c = true := by simp [isSmall, h]
set_option maxRecDepth 100000 in
set_option maxHeartbeats 800000 in
theorem refName_any (s : ByteArray) (w : World) : Calls Tryz.prog 84 #[.string s] w fun e w' => e = .returned (.bool (nameOk s)) ∧ w = w' := by
  by_cases h0 : s.size = 0
  · have d1 : decide ((s.size : Int) < 1) = true := by simp; omega
    have HN := Lib.hid (nameOk_none h0)
    clear h0
    go_enter Tryz.func84, Tryz.ntmps84
    go_wp2_with fail
    go_ret
    exact ⟨by rw [HN.out]; rfl, rfl⟩
  · have d1 : decide ((s.size : Int) < 1) = false := by simp; omega
    by_cases h2 : 32 < s.size
    · have d2 : decide ((32 : Int) < s.size) = true := by simp; omega
      have HN := Lib.hid (nameOk_long h2)
      go_enter Tryz.func84, Tryz.ntmps84
      go_wp2_with fail
      go_ret
      exact ⟨by rw [HN.out]; rfl, rfl⟩
    · have d2 : decide ((32 : Int) < s.size) = false := by simp; omega
      have h3 : 0 < s.size := by omega
      clear h0
      by_cases e1 : (s[0].toNat : Int) < 97
      · have HN := Lib.hid (nameOk_first h3 (small_out (.inl e1)))
        have d3 : decide ((s[0].toNat : Int) < 97) = true := by simpa using e1
        clear e1
        go_enter Tryz.func84, Tryz.ntmps84
        go_wp2_with fail
        go_ret
        exact ⟨by rw [HN.out]; rfl, rfl⟩
      · have d3 : decide ((s[0].toNat : Int) < 97) = false := by simpa using e1
        by_cases e2 : 122 < (s[0].toNat : Int)
        · have HN := Lib.hid (nameOk_first h3 (small_out (.inr e2)))
          have d4 : decide ((122 : Int) < (s[0].toNat : Int)) = true := by simpa using e2
          clear e1 e2
          go_enter Tryz.func84, Tryz.ntmps84
          go_wp2_with fail
          go_ret
          exact ⟨by rw [HN.out]; rfl, rfl⟩
        · have d4 : decide ((122 : Int) < (s[0].toNat : Int)) = false := by simpa using e2
          have HN := Lib.hid (nameOk_rest h3 h2 (small_in ⟨by omega, by omega⟩))
          clear e1 e2
          go_enter Tryz.func84, Tryz.ntmps84
          go_wp2_with fail
          go_loop [3] (fun i => ∃ k : Nat, k ≤ s.size ∧ i = .int .i64 k ∧ Hid (∀ y ∈ (bytesOf s).take k, odd1 y = false)) (fun i => s.size - (intOf i).toNat)
          case atStart => exact ⟨0, Nat.zero_le _, rfl, fun y hy => by simp at hy⟩
          case round =>
            obtain ⟨k, hk, rfl, HB⟩ := hrel
            clear d3 d4
            by_cases hlt : k < s.size
            · have HX := Lib.hid (bytesOf_at s k hlt)
              rcases (by omega : (s[k].toNat : Int) < 48 ∨ (57 < (s[k].toNat : Int) ∧ (s[k].toNat : Int) < 97) ∨ 122 < (s[k].toNat : Int) ∨ (97 ≤ (s[k].toNat : Int) ∧ (s[k].toNat : Int) ≤ 122) ∨ (48 ≤ (s[k].toNat : Int) ∧ (s[k].toNat : Int) ≤ 57)) with q | q | q | q | q
              · have HI : Hid (nameOk s = false) := by show _ = _; rw [HN.out, any_at HX.out (odd1_out (.inl q))]; rfl
                have a1 : decide ((s[k].toNat : Int) < 97) = true := by simp; omega
                have a3 : decide ((s[k].toNat : Int) < 48) = true := by simp; omega
                clear q
                go_wp2_with fail
                go_ret
                exact ⟨by rw [HI.out]; rfl, rfl⟩
              · have HI : Hid (nameOk s = false) := by show _ = _; rw [HN.out, any_at HX.out (odd1_out (.inr (.inl q)))]; rfl
                have a1 : decide ((s[k].toNat : Int) < 97) = true := by simp; omega
                have a3 : decide ((s[k].toNat : Int) < 48) = false := by simp; omega
                have a4 : decide ((57 : Int) < (s[k].toNat : Int)) = true := by simp; omega
                clear q
                go_wp2_with fail
                go_ret
                exact ⟨by rw [HI.out]; rfl, rfl⟩
              · have HI : Hid (nameOk s = false) := by show _ = _; rw [HN.out, any_at HX.out (odd1_out (.inr (.inr q)))]; rfl
                have a1 : decide ((s[k].toNat : Int) < 97) = false := by simp; omega
                have a2 : decide ((122 : Int) < (s[k].toNat : Int)) = true := by simp; omega
                have a3 : decide ((s[k].toNat : Int) < 48) = false := by simp; omega
                have a4 : decide ((57 : Int) < (s[k].toNat : Int)) = true := by simp; omega
                clear q
                go_wp2_with fail
                go_ret
                exact ⟨by rw [HI.out]; rfl, rfl⟩
              · have HB2 : Hid (∀ y ∈ (bytesOf s).take (k + 1), odd1 y = false) := take_snoc_all HX.out (odd1_mid (.inl q)) HB.out
                have a1 : decide ((s[k].toNat : Int) < 97) = false := by simp; omega
                have a2 : decide ((122 : Int) < (s[k].toNat : Int)) = false := by simp; omega
                clear q
                go_wp2_with fail
                go_round
                case rel => exact ⟨k + 1, by omega, by go_num, HB2⟩
                case measure => simp [intOf]; omega
              · have HB2 : Hid (∀ y ∈ (bytesOf s).take (k + 1), odd1 y = false) := take_snoc_all HX.out (odd1_mid (.inr q)) HB.out
                have a1 : decide ((s[k].toNat : Int) < 97) = true := by simp; omega
                have a3 : decide ((s[k].toNat : Int) < 48) = false := by simp; omega
                have a4 : decide ((57 : Int) < (s[k].toNat : Int)) = false := by simp; omega
                clear q
                go_wp2_with fail
                go_round
                case rel => exact ⟨k + 1, by omega, by go_num, HB2⟩
                case measure => simp [intOf]; omega
            · have HI : Hid (nameOk s = true) := by
                show _ = _
                have := HB.out
                rw [List.take_of_length_le (by rw [bytesOf_len]; omega)] at this
                rw [HN.out, not_any this]
                rfl
              go_wp2_with fail
              go_ret
              exact ⟨by rw [HI.out]; rfl, rfl⟩
end Go.Proofs.YtpcihhdalofdiaaGreatDoor
