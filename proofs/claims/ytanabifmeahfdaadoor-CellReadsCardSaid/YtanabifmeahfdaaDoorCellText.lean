/- The contracts of a cell's text, the program's and the document's. -/
import Derived.Test.YtanabifmeahfdaaDoorCell
import Derived.Test.YtanabifmeahfdaaDoorNum
import Derived.Test.YtanabifmeahfdaaDoorShelf
import Derived.Deep.RegionHeld3
import Derived.Deep.DrawnRows
import Derived.Deep.RegionWith
import Derived.Lib.SmallJoins
namespace Go.Proofs.YtanabifmeahfdaaDoor
open Go.RowKit

theorem keeps_growN (w : World) (k : Nat) (os : Array Obj) : Keeps w (Sort.grow (w.drewN k) os) [] :=
  ⟨rfl, rfl, rfl, by simp, fun i hi _ => by
    show ((w.drewN k).heap ++ os)[i]? = _
    rw [Array.getElem?_append_left (by simpa using hi)]
    rfl⟩
theorem keeps_drewN {w w' : World} (h : ∃ k, w' = w.drewN k) : Keeps w w' [] := by
  obtain ⟨k, rfl⟩ := h
  exact Keeps.drewN (Keeps.refl w []) k

attribute [local go_sem] drewN_alloc
attribute [local go_sem ↓] Go.wp_at_zero Go.wp_at_succ

/-- The table that Itoa reads. -/
def Tab (w : World) : Prop := Lib.TabIs Tryd.prog w "internal/strconv.uint64pow10" .u64 Lib.pow10Tab
theorem Tab.keep {w w' : World} (h : Tab w) (k : Keeps w w' []) : Tab w' :=
  Joins.tab_stays (g := 0) (B := w.heap.size) (by kernel_rfl) h ⟨k.os, k.tape, k.output, k.size, fun i hi => k.block i hi (by simp)⟩ (Nat.le_refl _)

theorem itoa_any (n : Nat) (hn : n ≤ 9223372036854775807) (w : World) (ht : Tab w) :
    Calls Tryd.prog 16 #[.int .i64 n] w fun e w' => e = .returned (.string (digits n)) ∧ Keeps w w' [] := by
  refine (Tryd.strconv_Itoa n (by omega) (by omega) w ht).mono ?_
  rintro e w' ⟨rfl, k, os, rfl⟩
  have e1 : Lib.itoa (n : Int) = Lib.decDigits n := by
    unfold Lib.itoa
    rw [if_neg (by omega)]
    simp
  exact ⟨by rw [e1]; rfl, keeps_growN w k os⟩

def kindName : Nat → ByteArray
  | 0 => ⟨#[114, 101, 102, 32]⟩
  | 1 => ⟨#[115, 116, 114, 32]⟩
  | 2 => ⟨#[99, 111, 110, 32]⟩
  | 3 => ⟨#[108, 105, 115, 32]⟩
  | _ => ⟨#[102, 117, 110, 32]⟩
def cellText (c : Int) : ByteArray := if right c then kindName (c % 8).toNat ++ digits (c / 8).toNat else ⟨#[110, 111, 110, 101]⟩

set_option maxHeartbeats 1600000 in
theorem text_yes0 (c : Int) (n : Nat) (w : World) (h0 : 0 ≤ c) (h1 : c < 18446744073709551616) (hr : right c = true) (hk : kindOf c = 0) (hn : numOf c = n) (hn2 : n < 1099511627776) (ht : Tab w) :
    Calls Tryd.prog 14 #[.int .u64 c] w fun e w' => e = .returned (.string (kindName 0 ++ digits n)) ∧ Keeps w w' [] := by
  have HR := Lib.hid hr
  have HK := Lib.hid hk
  have HN := Lib.hid hn
  have HT := Lib.hid ht
  have hs := digits_size n (by omega)
  have a1 : ∀ w, (Op.stringOp .add (⟨#[114, 101, 102, 32]⟩ : ByteArray) (digits n)).run Tryd.prog w = .ok (.string (kindName 0 ++ digits n)) w := fun w => run_string_add_sum (P := Tryd.prog) w _ _ (by have : (⟨#[114, 101, 102, 32]⟩ : ByteArray).size = 4 := rfl; omega)
  have a2 : ∀ w, (Op.stringOp .add ((⟨#[114, 101, 102]⟩ : ByteArray) ++ ⟨#[32]⟩) (digits n)).run Tryd.prog w = .ok (.string (kindName 0 ++ digits n)) w := a1
  clear hr hk hn ht hs
  go_enter Tryd.func14, Tryd.ntmps14
  go_wp2_with fail
  refine (right_any c _ h0 h1).mono ?_
  rintro e w' ⟨rfl, rfl⟩
  rw [HR.out]
  go_wp2_with fail
  go_region_held3 (fun w' => w'.cell? ⟨w.heap.size, 0, none⟩ = some (.string ⟨#[114, 101, 102]⟩) ∧ Keeps w w' [])
    (first | (exact ⟨by simp [go_sem], by first | assumption | exact ((Keeps.refl w []).alloc _).drew | exact (Keeps.refl w []).alloc _⟩) | (exact ⟨(hk2.cell (p := ⟨w.heap.size, 0, none⟩) (by simp) (by simp)).trans (by simp [go_sem]), Keeps.trans (by first | exact ((Keeps.refl w []).alloc _).drew | exact (Keeps.refl w []).alloc _) hk2⟩))
    (first
      | (go_at_call 9; refine (kind_any c _ h0 h1).mono ?_; rintro e w' ⟨rfl, rfl⟩; rw [HK.out])
      | (go_at_call 10; refine (number_any c _ h0 h1).mono ?_; rintro e w' ⟨rfl, rfl⟩; rw [HN.out])
      | (go_at_call 16; refine (itoa_any n (by omega) _ (by exact HT.out.keep (((Keeps.refl w []).alloc _).drew))).mono ?_; rintro e w2 ⟨rfl, hk2⟩))
  all_goals
    go_wp2_with fail
    go_ret
    exact ⟨rfl, (by assumption : _ ∧ Keeps w w2 []).2⟩
set_option maxHeartbeats 1600000 in
theorem text_yes1 (c : Int) (n : Nat) (w : World) (h0 : 0 ≤ c) (h1 : c < 18446744073709551616) (hr : right c = true) (hk : kindOf c = 1) (hn : numOf c = n) (hn2 : n < 1099511627776) (ht : Tab w) :
    Calls Tryd.prog 14 #[.int .u64 c] w fun e w' => e = .returned (.string (kindName 1 ++ digits n)) ∧ Keeps w w' [] := by
  have HR := Lib.hid hr
  have HK := Lib.hid hk
  have HN := Lib.hid hn
  have HT := Lib.hid ht
  have hs := digits_size n (by omega)
  have a1 : ∀ w, (Op.stringOp .add (⟨#[115, 116, 114, 32]⟩ : ByteArray) (digits n)).run Tryd.prog w = .ok (.string (kindName 1 ++ digits n)) w := fun w => run_string_add_sum (P := Tryd.prog) w _ _ (by have : (⟨#[115, 116, 114, 32]⟩ : ByteArray).size = 4 := rfl; omega)
  have a2 : ∀ w, (Op.stringOp .add ((⟨#[115, 116, 114]⟩ : ByteArray) ++ ⟨#[32]⟩) (digits n)).run Tryd.prog w = .ok (.string (kindName 1 ++ digits n)) w := a1
  clear hr hk hn ht hs
  go_enter Tryd.func14, Tryd.ntmps14
  go_wp2_with fail
  refine (right_any c _ h0 h1).mono ?_
  rintro e w' ⟨rfl, rfl⟩
  rw [HR.out]
  go_wp2_with fail
  go_region_held3 (fun w' => w'.cell? ⟨w.heap.size, 1, none⟩ = some (.string ⟨#[115, 116, 114]⟩) ∧ Keeps w w' [])
    (first | (exact ⟨by simp [go_sem], by first | assumption | exact ((Keeps.refl w []).alloc _).drew | exact (Keeps.refl w []).alloc _⟩) | (exact ⟨(hk2.cell (p := ⟨w.heap.size, 1, none⟩) (by simp) (by simp)).trans (by simp [go_sem]), Keeps.trans (by first | exact ((Keeps.refl w []).alloc _).drew | exact (Keeps.refl w []).alloc _) hk2⟩))
    (first
      | (go_at_call 9; refine (kind_any c _ h0 h1).mono ?_; rintro e w' ⟨rfl, rfl⟩; rw [HK.out])
      | (go_at_call 10; refine (number_any c _ h0 h1).mono ?_; rintro e w' ⟨rfl, rfl⟩; rw [HN.out])
      | (go_at_call 16; refine (itoa_any n (by omega) _ (by exact HT.out.keep (((Keeps.refl w []).alloc _).drew))).mono ?_; rintro e w2 ⟨rfl, hk2⟩))
  all_goals
    go_wp2_with fail
    go_ret
    exact ⟨rfl, (by assumption : _ ∧ Keeps w w2 []).2⟩
set_option maxHeartbeats 1600000 in
theorem text_yes2 (c : Int) (n : Nat) (w : World) (h0 : 0 ≤ c) (h1 : c < 18446744073709551616) (hr : right c = true) (hk : kindOf c = 2) (hn : numOf c = n) (hn2 : n < 1099511627776) (ht : Tab w) :
    Calls Tryd.prog 14 #[.int .u64 c] w fun e w' => e = .returned (.string (kindName 2 ++ digits n)) ∧ Keeps w w' [] := by
  have HR := Lib.hid hr
  have HK := Lib.hid hk
  have HN := Lib.hid hn
  have HT := Lib.hid ht
  have hs := digits_size n (by omega)
  have a1 : ∀ w, (Op.stringOp .add (⟨#[99, 111, 110, 32]⟩ : ByteArray) (digits n)).run Tryd.prog w = .ok (.string (kindName 2 ++ digits n)) w := fun w => run_string_add_sum (P := Tryd.prog) w _ _ (by have : (⟨#[99, 111, 110, 32]⟩ : ByteArray).size = 4 := rfl; omega)
  have a2 : ∀ w, (Op.stringOp .add ((⟨#[99, 111, 110]⟩ : ByteArray) ++ ⟨#[32]⟩) (digits n)).run Tryd.prog w = .ok (.string (kindName 2 ++ digits n)) w := a1
  clear hr hk hn ht hs
  go_enter Tryd.func14, Tryd.ntmps14
  go_wp2_with fail
  refine (right_any c _ h0 h1).mono ?_
  rintro e w' ⟨rfl, rfl⟩
  rw [HR.out]
  go_wp2_with fail
  go_region_held3 (fun w' => w'.cell? ⟨w.heap.size, 2, none⟩ = some (.string ⟨#[99, 111, 110]⟩) ∧ Keeps w w' [])
    (first | (exact ⟨by simp [go_sem], by first | assumption | exact ((Keeps.refl w []).alloc _).drew | exact (Keeps.refl w []).alloc _⟩) | (exact ⟨(hk2.cell (p := ⟨w.heap.size, 2, none⟩) (by simp) (by simp)).trans (by simp [go_sem]), Keeps.trans (by first | exact ((Keeps.refl w []).alloc _).drew | exact (Keeps.refl w []).alloc _) hk2⟩))
    (first
      | (go_at_call 9; refine (kind_any c _ h0 h1).mono ?_; rintro e w' ⟨rfl, rfl⟩; rw [HK.out])
      | (go_at_call 10; refine (number_any c _ h0 h1).mono ?_; rintro e w' ⟨rfl, rfl⟩; rw [HN.out])
      | (go_at_call 16; refine (itoa_any n (by omega) _ (by exact HT.out.keep (((Keeps.refl w []).alloc _).drew))).mono ?_; rintro e w2 ⟨rfl, hk2⟩))
  all_goals
    go_wp2_with fail
    go_ret
    exact ⟨rfl, (by assumption : _ ∧ Keeps w w2 []).2⟩
set_option maxHeartbeats 1600000 in
theorem text_yes3 (c : Int) (n : Nat) (w : World) (h0 : 0 ≤ c) (h1 : c < 18446744073709551616) (hr : right c = true) (hk : kindOf c = 3) (hn : numOf c = n) (hn2 : n < 1099511627776) (ht : Tab w) :
    Calls Tryd.prog 14 #[.int .u64 c] w fun e w' => e = .returned (.string (kindName 3 ++ digits n)) ∧ Keeps w w' [] := by
  have HR := Lib.hid hr
  have HK := Lib.hid hk
  have HN := Lib.hid hn
  have HT := Lib.hid ht
  have hs := digits_size n (by omega)
  have a1 : ∀ w, (Op.stringOp .add (⟨#[108, 105, 115, 32]⟩ : ByteArray) (digits n)).run Tryd.prog w = .ok (.string (kindName 3 ++ digits n)) w := fun w => run_string_add_sum (P := Tryd.prog) w _ _ (by have : (⟨#[108, 105, 115, 32]⟩ : ByteArray).size = 4 := rfl; omega)
  have a2 : ∀ w, (Op.stringOp .add ((⟨#[108, 105, 115]⟩ : ByteArray) ++ ⟨#[32]⟩) (digits n)).run Tryd.prog w = .ok (.string (kindName 3 ++ digits n)) w := a1
  clear hr hk hn ht hs
  go_enter Tryd.func14, Tryd.ntmps14
  go_wp2_with fail
  refine (right_any c _ h0 h1).mono ?_
  rintro e w' ⟨rfl, rfl⟩
  rw [HR.out]
  go_wp2_with fail
  go_region_held3 (fun w' => w'.cell? ⟨w.heap.size, 3, none⟩ = some (.string ⟨#[108, 105, 115]⟩) ∧ Keeps w w' [])
    (first | (exact ⟨by simp [go_sem], by first | assumption | exact ((Keeps.refl w []).alloc _).drew | exact (Keeps.refl w []).alloc _⟩) | (exact ⟨(hk2.cell (p := ⟨w.heap.size, 3, none⟩) (by simp) (by simp)).trans (by simp [go_sem]), Keeps.trans (by first | exact ((Keeps.refl w []).alloc _).drew | exact (Keeps.refl w []).alloc _) hk2⟩))
    (first
      | (go_at_call 9; refine (kind_any c _ h0 h1).mono ?_; rintro e w' ⟨rfl, rfl⟩; rw [HK.out])
      | (go_at_call 10; refine (number_any c _ h0 h1).mono ?_; rintro e w' ⟨rfl, rfl⟩; rw [HN.out])
      | (go_at_call 16; refine (itoa_any n (by omega) _ (by exact HT.out.keep (((Keeps.refl w []).alloc _).drew))).mono ?_; rintro e w2 ⟨rfl, hk2⟩))
  all_goals
    go_wp2_with fail
    go_ret
    exact ⟨rfl, (by assumption : _ ∧ Keeps w w2 []).2⟩
set_option maxHeartbeats 1600000 in
theorem text_yes4 (c : Int) (n : Nat) (w : World) (h0 : 0 ≤ c) (h1 : c < 18446744073709551616) (hr : right c = true) (hk : kindOf c = 4) (hn : numOf c = n) (hn2 : n < 1099511627776) (ht : Tab w) :
    Calls Tryd.prog 14 #[.int .u64 c] w fun e w' => e = .returned (.string (kindName 4 ++ digits n)) ∧ Keeps w w' [] := by
  have HR := Lib.hid hr
  have HK := Lib.hid hk
  have HN := Lib.hid hn
  have HT := Lib.hid ht
  have hs := digits_size n (by omega)
  have a1 : ∀ w, (Op.stringOp .add (⟨#[102, 117, 110, 32]⟩ : ByteArray) (digits n)).run Tryd.prog w = .ok (.string (kindName 4 ++ digits n)) w := fun w => run_string_add_sum (P := Tryd.prog) w _ _ (by have : (⟨#[102, 117, 110, 32]⟩ : ByteArray).size = 4 := rfl; omega)
  have a2 : ∀ w, (Op.stringOp .add ((⟨#[102, 117, 110]⟩ : ByteArray) ++ ⟨#[32]⟩) (digits n)).run Tryd.prog w = .ok (.string (kindName 4 ++ digits n)) w := a1
  clear hr hk hn ht hs
  go_enter Tryd.func14, Tryd.ntmps14
  go_wp2_with fail
  refine (right_any c _ h0 h1).mono ?_
  rintro e w' ⟨rfl, rfl⟩
  rw [HR.out]
  go_wp2_with fail
  go_region_held3 (fun w' => w'.cell? ⟨w.heap.size, 4, none⟩ = some (.string ⟨#[102, 117, 110]⟩) ∧ Keeps w w' [])
    (first | (exact ⟨by simp [go_sem], by first | assumption | exact ((Keeps.refl w []).alloc _).drew | exact (Keeps.refl w []).alloc _⟩) | (exact ⟨(hk2.cell (p := ⟨w.heap.size, 4, none⟩) (by simp) (by simp)).trans (by simp [go_sem]), Keeps.trans (by first | exact ((Keeps.refl w []).alloc _).drew | exact (Keeps.refl w []).alloc _) hk2⟩))
    (first
      | (go_at_call 9; refine (kind_any c _ h0 h1).mono ?_; rintro e w' ⟨rfl, rfl⟩; rw [HK.out])
      | (go_at_call 10; refine (number_any c _ h0 h1).mono ?_; rintro e w' ⟨rfl, rfl⟩; rw [HN.out])
      | (go_at_call 16; refine (itoa_any n (by omega) _ (by exact HT.out.keep (((Keeps.refl w []).alloc _).drew))).mono ?_; rintro e w2 ⟨rfl, hk2⟩))
  all_goals
    go_wp2_with fail
    go_ret
    exact ⟨rfl, (by assumption : _ ∧ Keeps w w2 []).2⟩
set_option maxHeartbeats 3200000 in
theorem refText_yes0 (c : Int) (n : Nat) (w : World) (h0 : 0 ≤ c) (h1 : c < 18446744073709551616) (hr : right c = true) (hk : kindOf c = 0) (hn : numOf c = n) (hn2 : n < 1099511627776) :
    Calls Tryd.prog 15 #[.int .u64 c] w fun e w' => e = .returned (.string (kindName 0 ++ digits n)) ∧ Keeps w w' [] := by
  have HR := Lib.hid hr
  have HK := Lib.hid hk
  have HN := Lib.hid hn
  have hs := digits_size n (by omega)
  have a1 : ∀ w, (Op.stringOp .add (⟨#[114, 101, 102, 32]⟩ : ByteArray) (digits n)).run Tryd.prog w = .ok (.string (kindName 0 ++ digits n)) w := fun w => run_string_add_sum (P := Tryd.prog) w _ _ (by have : (⟨#[114, 101, 102, 32]⟩ : ByteArray).size = 4 := rfl; omega)
  have a2 : ∀ w, (Op.stringOp .add ((⟨#[114, 101, 102]⟩ : ByteArray) ++ ⟨#[32]⟩) (digits n)).run Tryd.prog w = .ok (.string (kindName 0 ++ digits n)) w := a1
  clear hr hk hn hs
  go_enter Tryd.func15, Tryd.ntmps15
  go_wp2_with fail
  refine (refRight_any c _ h0 h1).mono ?_
  rintro e w' ⟨rfl, rfl⟩
  rw [HR.out]
  go_wp2_with fail
  go_region_with (first
      | (go_at_call 12; refine (refKind_any c _ h0 h1).mono ?_; rintro e w' ⟨rfl, rfl⟩; rw [HK.out])
      | (go_at_call 13; refine (refNumber_any c _ h0 h1).mono ?_; rintro e w' ⟨rfl, rfl⟩; rw [HN.out])
      | (go_at_call 17; refine (num_any n _ (by omega)).mono ?_; rintro e w' ⟨rfl, kd, rfl⟩))
  all_goals
    go_wp2_with fail
    go_ret
    exact ⟨rfl, by repeat (first | exact Keeps.refl _ _ | apply Keeps.drewN | apply Keeps.drew | apply Keeps.alloc)⟩
set_option maxHeartbeats 3200000 in
theorem refText_yes1 (c : Int) (n : Nat) (w : World) (h0 : 0 ≤ c) (h1 : c < 18446744073709551616) (hr : right c = true) (hk : kindOf c = 1) (hn : numOf c = n) (hn2 : n < 1099511627776) :
    Calls Tryd.prog 15 #[.int .u64 c] w fun e w' => e = .returned (.string (kindName 1 ++ digits n)) ∧ Keeps w w' [] := by
  have HR := Lib.hid hr
  have HK := Lib.hid hk
  have HN := Lib.hid hn
  have hs := digits_size n (by omega)
  have a1 : ∀ w, (Op.stringOp .add (⟨#[115, 116, 114, 32]⟩ : ByteArray) (digits n)).run Tryd.prog w = .ok (.string (kindName 1 ++ digits n)) w := fun w => run_string_add_sum (P := Tryd.prog) w _ _ (by have : (⟨#[115, 116, 114, 32]⟩ : ByteArray).size = 4 := rfl; omega)
  have a2 : ∀ w, (Op.stringOp .add ((⟨#[115, 116, 114]⟩ : ByteArray) ++ ⟨#[32]⟩) (digits n)).run Tryd.prog w = .ok (.string (kindName 1 ++ digits n)) w := a1
  clear hr hk hn hs
  go_enter Tryd.func15, Tryd.ntmps15
  go_wp2_with fail
  refine (refRight_any c _ h0 h1).mono ?_
  rintro e w' ⟨rfl, rfl⟩
  rw [HR.out]
  go_wp2_with fail
  go_region_with (first
      | (go_at_call 12; refine (refKind_any c _ h0 h1).mono ?_; rintro e w' ⟨rfl, rfl⟩; rw [HK.out])
      | (go_at_call 13; refine (refNumber_any c _ h0 h1).mono ?_; rintro e w' ⟨rfl, rfl⟩; rw [HN.out])
      | (go_at_call 17; refine (num_any n _ (by omega)).mono ?_; rintro e w' ⟨rfl, kd, rfl⟩))
  all_goals
    go_wp2_with fail
    go_ret
    exact ⟨rfl, by repeat (first | exact Keeps.refl _ _ | apply Keeps.drewN | apply Keeps.drew | apply Keeps.alloc)⟩
set_option maxHeartbeats 3200000 in
theorem refText_yes2 (c : Int) (n : Nat) (w : World) (h0 : 0 ≤ c) (h1 : c < 18446744073709551616) (hr : right c = true) (hk : kindOf c = 2) (hn : numOf c = n) (hn2 : n < 1099511627776) :
    Calls Tryd.prog 15 #[.int .u64 c] w fun e w' => e = .returned (.string (kindName 2 ++ digits n)) ∧ Keeps w w' [] := by
  have HR := Lib.hid hr
  have HK := Lib.hid hk
  have HN := Lib.hid hn
  have hs := digits_size n (by omega)
  have a1 : ∀ w, (Op.stringOp .add (⟨#[99, 111, 110, 32]⟩ : ByteArray) (digits n)).run Tryd.prog w = .ok (.string (kindName 2 ++ digits n)) w := fun w => run_string_add_sum (P := Tryd.prog) w _ _ (by have : (⟨#[99, 111, 110, 32]⟩ : ByteArray).size = 4 := rfl; omega)
  have a2 : ∀ w, (Op.stringOp .add ((⟨#[99, 111, 110]⟩ : ByteArray) ++ ⟨#[32]⟩) (digits n)).run Tryd.prog w = .ok (.string (kindName 2 ++ digits n)) w := a1
  clear hr hk hn hs
  go_enter Tryd.func15, Tryd.ntmps15
  go_wp2_with fail
  refine (refRight_any c _ h0 h1).mono ?_
  rintro e w' ⟨rfl, rfl⟩
  rw [HR.out]
  go_wp2_with fail
  go_region_with (first
      | (go_at_call 12; refine (refKind_any c _ h0 h1).mono ?_; rintro e w' ⟨rfl, rfl⟩; rw [HK.out])
      | (go_at_call 13; refine (refNumber_any c _ h0 h1).mono ?_; rintro e w' ⟨rfl, rfl⟩; rw [HN.out])
      | (go_at_call 17; refine (num_any n _ (by omega)).mono ?_; rintro e w' ⟨rfl, kd, rfl⟩))
  all_goals
    go_wp2_with fail
    go_ret
    exact ⟨rfl, by repeat (first | exact Keeps.refl _ _ | apply Keeps.drewN | apply Keeps.drew | apply Keeps.alloc)⟩
set_option maxHeartbeats 3200000 in
theorem refText_yes3 (c : Int) (n : Nat) (w : World) (h0 : 0 ≤ c) (h1 : c < 18446744073709551616) (hr : right c = true) (hk : kindOf c = 3) (hn : numOf c = n) (hn2 : n < 1099511627776) :
    Calls Tryd.prog 15 #[.int .u64 c] w fun e w' => e = .returned (.string (kindName 3 ++ digits n)) ∧ Keeps w w' [] := by
  have HR := Lib.hid hr
  have HK := Lib.hid hk
  have HN := Lib.hid hn
  have hs := digits_size n (by omega)
  have a1 : ∀ w, (Op.stringOp .add (⟨#[108, 105, 115, 32]⟩ : ByteArray) (digits n)).run Tryd.prog w = .ok (.string (kindName 3 ++ digits n)) w := fun w => run_string_add_sum (P := Tryd.prog) w _ _ (by have : (⟨#[108, 105, 115, 32]⟩ : ByteArray).size = 4 := rfl; omega)
  have a2 : ∀ w, (Op.stringOp .add ((⟨#[108, 105, 115]⟩ : ByteArray) ++ ⟨#[32]⟩) (digits n)).run Tryd.prog w = .ok (.string (kindName 3 ++ digits n)) w := a1
  clear hr hk hn hs
  go_enter Tryd.func15, Tryd.ntmps15
  go_wp2_with fail
  refine (refRight_any c _ h0 h1).mono ?_
  rintro e w' ⟨rfl, rfl⟩
  rw [HR.out]
  go_wp2_with fail
  go_region_with (first
      | (go_at_call 12; refine (refKind_any c _ h0 h1).mono ?_; rintro e w' ⟨rfl, rfl⟩; rw [HK.out])
      | (go_at_call 13; refine (refNumber_any c _ h0 h1).mono ?_; rintro e w' ⟨rfl, rfl⟩; rw [HN.out])
      | (go_at_call 17; refine (num_any n _ (by omega)).mono ?_; rintro e w' ⟨rfl, kd, rfl⟩))
  all_goals
    go_wp2_with fail
    go_ret
    exact ⟨rfl, by repeat (first | exact Keeps.refl _ _ | apply Keeps.drewN | apply Keeps.drew | apply Keeps.alloc)⟩
set_option maxHeartbeats 3200000 in
theorem refText_yes4 (c : Int) (n : Nat) (w : World) (h0 : 0 ≤ c) (h1 : c < 18446744073709551616) (hr : right c = true) (hk : kindOf c = 4) (hn : numOf c = n) (hn2 : n < 1099511627776) :
    Calls Tryd.prog 15 #[.int .u64 c] w fun e w' => e = .returned (.string (kindName 4 ++ digits n)) ∧ Keeps w w' [] := by
  have HR := Lib.hid hr
  have HK := Lib.hid hk
  have HN := Lib.hid hn
  have hs := digits_size n (by omega)
  have a1 : ∀ w, (Op.stringOp .add (⟨#[102, 117, 110, 32]⟩ : ByteArray) (digits n)).run Tryd.prog w = .ok (.string (kindName 4 ++ digits n)) w := fun w => run_string_add_sum (P := Tryd.prog) w _ _ (by have : (⟨#[102, 117, 110, 32]⟩ : ByteArray).size = 4 := rfl; omega)
  have a2 : ∀ w, (Op.stringOp .add ((⟨#[102, 117, 110]⟩ : ByteArray) ++ ⟨#[32]⟩) (digits n)).run Tryd.prog w = .ok (.string (kindName 4 ++ digits n)) w := a1
  clear hr hk hn hs
  go_enter Tryd.func15, Tryd.ntmps15
  go_wp2_with fail
  refine (refRight_any c _ h0 h1).mono ?_
  rintro e w' ⟨rfl, rfl⟩
  rw [HR.out]
  go_wp2_with fail
  go_region_with (first
      | (go_at_call 12; refine (refKind_any c _ h0 h1).mono ?_; rintro e w' ⟨rfl, rfl⟩; rw [HK.out])
      | (go_at_call 13; refine (refNumber_any c _ h0 h1).mono ?_; rintro e w' ⟨rfl, rfl⟩; rw [HN.out])
      | (go_at_call 17; refine (num_any n _ (by omega)).mono ?_; rintro e w' ⟨rfl, kd, rfl⟩))
  all_goals
    go_wp2_with fail
    go_ret
    exact ⟨rfl, by repeat (first | exact Keeps.refl _ _ | apply Keeps.drewN | apply Keeps.drew | apply Keeps.alloc)⟩

theorem right_cases {c : Int} (h0 : 0 ≤ c) (hr : right c = true) : ∃ n : Nat, numOf c = n ∧ n < 1099511627776 ∧ (c / 8).toNat = n ∧ (kindOf c = 0 ∧ (c % 8).toNat = 0 ∨ kindOf c = 1 ∧ (c % 8).toNat = 1 ∨ kindOf c = 2 ∧ (c % 8).toNat = 2 ∨ kindOf c = 3 ∧ (c % 8).toNat = 3 ∨ kindOf c = 4 ∧ (c % 8).toNat = 4) := by
  have h := (right_iff c).1 hr
  refine ⟨(c / 8).toNat, ?_, by omega, rfl, ?_⟩
  · unfold numOf; rw [if_pos hr]; omega
  · unfold kindOf; rw [if_pos hr]; omega
theorem cellText_yes {c : Int} {n j : Nat} (hr : right c = true) (hn : (c / 8).toNat = n) (hj : (c % 8).toNat = j) : cellText c = kindName j ++ digits n := by
  unfold cellText
  rw [if_pos hr, hn, hj]

set_option maxHeartbeats 400000 in
theorem text_no (c : Int) (w : World) (h0 : 0 ≤ c) (h1 : c < 18446744073709551616) (hr : right c = false) :
    Calls Tryd.prog 14 #[.int .u64 c] w fun e w' => e = .returned (.string ⟨#[110, 111, 110, 101]⟩) ∧ w = w' := by
  have HR := Lib.hid hr
  clear hr
  go_enter Tryd.func14, Tryd.ntmps14
  go_wp2_with fail
  refine (right_any c _ h0 h1).mono ?_
  rintro e w' ⟨rfl, rfl⟩
  rw [HR.out]
  go_wp2_with fail
  go_ret
  exact ⟨rfl, rfl⟩
set_option maxHeartbeats 400000 in
theorem refText_no (c : Int) (w : World) (h0 : 0 ≤ c) (h1 : c < 18446744073709551616) (hr : right c = false) :
    Calls Tryd.prog 15 #[.int .u64 c] w fun e w' => e = .returned (.string ⟨#[110, 111, 110, 101]⟩) ∧ w = w' := by
  have HR := Lib.hid hr
  clear hr
  go_enter Tryd.func15, Tryd.ntmps15
  go_wp2_with fail
  refine (refRight_any c _ h0 h1).mono ?_
  rintro e w' ⟨rfl, rfl⟩
  rw [HR.out]
  go_wp2_with fail
  go_ret
  exact ⟨rfl, rfl⟩

theorem text_any (c : Int) (w : World) (h0 : 0 ≤ c) (h1 : c < 18446744073709551616) (ht : Tab w) :
    Calls Tryd.prog 14 #[.int .u64 c] w fun e w' => e = .returned (.string (cellText c)) ∧ Keeps w w' [] := by
  by_cases hr : right c = true
  · obtain ⟨n, hn, hn2, hn3, hk⟩ := right_cases h0 hr
    rcases hk with ⟨hk, hj⟩ | ⟨hk, hj⟩ | ⟨hk, hj⟩ | ⟨hk, hj⟩ | ⟨hk, hj⟩
    · rw [cellText_yes hr hn3 hj]; exact text_yes0 c n w h0 h1 hr hk hn hn2 ht
    · rw [cellText_yes hr hn3 hj]; exact text_yes1 c n w h0 h1 hr hk hn hn2 ht
    · rw [cellText_yes hr hn3 hj]; exact text_yes2 c n w h0 h1 hr hk hn hn2 ht
    · rw [cellText_yes hr hn3 hj]; exact text_yes3 c n w h0 h1 hr hk hn hn2 ht
    · rw [cellText_yes hr hn3 hj]; exact text_yes4 c n w h0 h1 hr hk hn hn2 ht
  · refine (text_no c w h0 h1 (by simpa using hr)).mono fun e w' ⟨he, hw⟩ => ⟨?_, hw ▸ Keeps.refl _ _⟩
    rw [he]; unfold cellText; rw [if_neg hr]
theorem refText_any (c : Int) (w : World) (h0 : 0 ≤ c) (h1 : c < 18446744073709551616) :
    Calls Tryd.prog 15 #[.int .u64 c] w fun e w' => e = .returned (.string (cellText c)) ∧ Keeps w w' [] := by
  by_cases hr : right c = true
  · obtain ⟨n, hn, hn2, hn3, hk⟩ := right_cases h0 hr
    rcases hk with ⟨hk, hj⟩ | ⟨hk, hj⟩ | ⟨hk, hj⟩ | ⟨hk, hj⟩ | ⟨hk, hj⟩
    · rw [cellText_yes hr hn3 hj]; exact refText_yes0 c n w h0 h1 hr hk hn hn2
    · rw [cellText_yes hr hn3 hj]; exact refText_yes1 c n w h0 h1 hr hk hn hn2
    · rw [cellText_yes hr hn3 hj]; exact refText_yes2 c n w h0 h1 hr hk hn hn2
    · rw [cellText_yes hr hn3 hj]; exact refText_yes3 c n w h0 h1 hr hk hn hn2
    · rw [cellText_yes hr hn3 hj]; exact refText_yes4 c n w h0 h1 hr hk hn hn2
  · refine (refText_no c w h0 h1 (by simpa using hr)).mono fun e w' ⟨he, hw⟩ => ⟨?_, hw ▸ Keeps.refl _ _⟩
    rw [he]; unfold cellText; rw [if_neg hr]
end Go.Proofs.YtanabifmeahfdaaDoor
