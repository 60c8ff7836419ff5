/- The contracts of package area: a row of cells with an end. -/
import Derived.Test.YtnonfmaehfmigaaGreatDoorKeep
import Derived.BigRegion
import Derived.BigQuiet
import Derived.Deep.QuietTactic
import Derived.RegionTactic
namespace Go.Proofs.YtnonfmaehfmigaaGreatDoor
open Go.RowKit

/-- May it be a cell? -/
def right (c : Int) : Bool := decide (c % 8 ≤ 4) && decide (c / 8 < 1099511627776)

set_option maxHeartbeats 400000 in
theorem right_any (c : Int) (w : World) (h0 : 0 ≤ c) (h1 : c < 18446744073709551616) : Calls Tryz.prog 48 #[.int .u64 c] w fun e w' => e = .returned (.bool (right c)) ∧ w = w' := by
  by_cases ha : c % 8 ≤ 4
  · by_cases hb : c / 8 < 1099511627776
    · have hr : right c = true := by simp [right, ha, hb]
      have HR := Lib.hid hr
      have da : decide (c % 8 ≤ 4) = true := by simpa using ha
      have db : decide (c / 8 < 1099511627776) = true := by simpa using hb
      clear hr
      go_enter Tryz.func48, Tryz.ntmps48
      go_wp2_with fail
      go_ret
      exact ⟨by rw [HR.out]; rfl, rfl⟩
    · have hr : right c = false := by simp [right, hb]
      have HR := Lib.hid hr
      have da : decide (c % 8 ≤ 4) = true := by simpa using ha
      have db : decide (c / 8 < 1099511627776) = false := by simpa using hb
      clear hr
      go_enter Tryz.func48, Tryz.ntmps48
      go_wp2_with fail
      go_ret
      exact ⟨by rw [HR.out]; rfl, rfl⟩
  · have hr : right c = false := by simp [right, ha]
    have HR := Lib.hid hr
    have da : decide (c % 8 ≤ 4) = false := by simpa using ha
    clear hr
    go_enter Tryz.func48, Tryz.ntmps48
    go_wp2_with fail
    go_ret
    exact ⟨by rw [HR.out]; rfl, rfl⟩

/-- An Area behind a pointer: its block g, its cells in block h. -/
structure Ar (w : World) (base g h : Nat) (l : List Int) (room : Nat) : Prop where
  blk : ∃ cap, Blk w g 109 #[.slice (some ⟨h, 0, none⟩) l.length cap, .int .i64 room] ∧ w.ownsRow base 28 1 (.slice (some ⟨h, 0, none⟩) l.length cap) l.length (l.map (Value.int .u64)) ∧ room ≤ cap
  low : base ≤ g
  fits : l.length ≤ room
  most : room ≤ 65536
  bytes : ∀ x ∈ l, 0 ≤ x ∧ x < 18446744073709551616

theorem Ar.lt {w : World} {base g h : Nat} {l : List Int} {room : Nat} (a : Ar w base g h l room) : g < w.heap.size ∧ h < w.heap.size ∧ g ≠ h ∧ base ≤ h := by
  obtain ⟨cap, hb, ho, _⟩ := a.blk
  obtain ⟨cur, hc, _, _, _, hh⟩ := own_block ho
  exact ⟨hb.lt, hc.lt, hb.ne_ hc (by decide), hh⟩
theorem Ar.keep {w w' : World} {S : List Nat} {base g h : Nat} {l : List Int} {room : Nat} (a : Ar w base g h l room) (k : Keeps w w' S) (hg : g ∉ S) (hh : h ∉ S) : Ar w' base g h l room := by
  obtain ⟨cap, hb, ho, hc⟩ := a.blk
  exact ⟨⟨cap, hb.keep k hg, own_keep ho k hh, hc⟩, a.low, a.fits, a.most, a.bytes⟩
theorem Ar.drew {w : World} {base g h : Nat} {l : List Int} {room : Nat} (a : Ar w base g h l room) : Ar w.drew base g h l room := by
  obtain ⟨cap, hb, ho, hc⟩ := a.blk
  exact ⟨⟨cap, hb.drew, ho.drew, hc⟩, a.low, a.fits, a.most, a.bytes⟩
theorem Ar.drewN {w : World} {base g h : Nat} {l : List Int} {room : Nat} (a : Ar w base g h l room) (n : Nat) : Ar (w.drewN n) base g h l room :=
  a.keep (Keeps.drewN (Keeps.refl w []) n) (by simp) (by simp)

/-! ### A receiver that isn't there -/
set_option maxHeartbeats 400000 in
theorem free_nil (w : World) : Calls Tryz.prog 92 #[.pointer none] w fun e w' => e = .returned (.int .i64 0) ∧ w = w' := by
  go_enter Tryz.func92, Tryz.ntmps92
  go_wp2_with fail
  go_ret
  exact ⟨rfl, rfl⟩
set_option maxHeartbeats 400000 in
theorem top_nil (w : World) : Calls Tryz.prog 28 #[.pointer none] w fun e w' => e = .returned (.int .i64 0) ∧ w = w' := by
  go_enter Tryz.func28, Tryz.ntmps28
  go_wp2_with fail
  go_ret
  exact ⟨rfl, rfl⟩
set_option maxHeartbeats 400000 in
theorem has_nil (i : Int) (w : World) : Calls Tryz.prog 72 #[.pointer none, .int .i64 i] w fun e w' => e = .returned (.bool false) ∧ w = w' := by
  go_enter Tryz.func72, Tryz.ntmps72
  go_wp2_with fail
  go_ret
  exact ⟨rfl, rfl⟩
set_option maxHeartbeats 400000 in
theorem push_nil (c : Int) (w : World) : Calls Tryz.prog 86 #[.pointer none, .int .u64 c] w fun e w' => e = .returned (.bool false) ∧ w = w' := by
  go_enter Tryz.func86, Tryz.ntmps86
  go_wp2_with fail
  refine (free_nil _).mono ?_
  rintro e w' ⟨rfl, rfl⟩
  go_wp2_with fail
  go_ret
  exact ⟨rfl, rfl⟩
set_option maxHeartbeats 400000 in
theorem get_nil (i : Int) (w : World) : Calls Tryz.prog 70 #[.pointer none, .int .i64 i] w fun e w' => e = .returned (.tuple #[.int .u64 0, .bool false]) ∧ w = w' := by
  go_enter Tryz.func70, Tryz.ntmps70
  go_wp2_with fail
  refine (has_nil _ _).mono ?_
  rintro e w' ⟨rfl, rfl⟩
  go_wp2_with fail
  go_ret2
  exact ⟨rfl, rfl⟩
set_option maxHeartbeats 400000 in
theorem set_nil (i c : Int) (w : World) : Calls Tryz.prog 38 #[.pointer none, .int .i64 i, .int .u64 c] w fun e w' => e = .returned (.bool false) ∧ w = w' := by
  go_enter Tryz.func38, Tryz.ntmps38
  go_wp2_with fail
  refine (has_nil _ _).mono ?_
  rintro e w' ⟨rfl, rfl⟩
  go_wp2_with fail
  go_ret
  exact ⟨rfl, rfl⟩
set_option maxHeartbeats 400000 in
theorem cut_nil (n : Int) (w : World) : Calls Tryz.prog 32 #[.pointer none, .int .i64 n] w fun e w' => e = .returned (.bool false) ∧ w = w' := by
  go_enter Tryz.func32, Tryz.ntmps32
  go_wp2_with fail
  go_ret
  exact ⟨rfl, rfl⟩
set_option maxHeartbeats 400000 in
theorem cells_nil (w : World) : Calls Tryz.prog 27 #[.pointer none] w fun e w' => e = .returned (.slice none 0 0) ∧ w = w' := by
  go_enter Tryz.func27, Tryz.ntmps27
  go_wp2_with fail
  go_ret
  exact ⟨rfl, rfl⟩

/-! ### New -/
theorem info_cell : (Tryz.prog.info? 28).map (fun i => (i.zero, i.size, i.bytes)) = some (some (.int .u64 0), 1, 8) := by kernel_rfl
set_option maxHeartbeats 400000 in
theorem new_no (room : Int) (w : World) (h : room < 0 ∨ 65536 < room) : Calls Tryz.prog 45 #[.int .i64 room] w fun e w' => e = .returned (.tuple #[.pointer none, .int .i64 1]) ∧ w = w' := by
  rcases h with h | h
  · have d : decide (room < 0) = true := by simpa using h
    go_enter Tryz.func45, Tryz.ntmps45
    go_wp2_with fail
    go_ret2
    exact ⟨rfl, rfl⟩
  · have d : decide (room < 0) = false := by simp; omega
    have d2 : decide (65536 < room) = true := by simpa using h
    go_enter Tryz.func45, Tryz.ntmps45
    go_wp2_with fail
    go_ret2
    exact ⟨rfl, rfl⟩
/-- What New leaves, where there is an Area. -/
def NewAr (w : World) (room : Nat) (e : Ending) (w' : World) : Prop :=
  ∃ g h, e = .returned (.tuple #[.pointer (some ⟨g, 0, none⟩), .int .i64 0]) ∧ Ar w' w.heap.size g h [] room ∧ Below w.heap.size w w'
set_option maxHeartbeats 400000 in
theorem new_yes (room : Nat) (w : World) (h : room ≤ 65536) : Calls Tryz.prog 45 #[.int .i64 room] w (NewAr w room) := by
  obtain ⟨i0, hi, hz0, hz1, hz2⟩ := info_parts info_cell
  have d : decide ((room : Int) < 0) = false := by simp
  have d2 : decide (65536 < (room : Int)) = false := by simp; omega
  have hbytes : i0.bytes * room ≤ 281474976710656 := by rw [hz2]; omega
  have HB := Lib.hid hbytes
  clear hbytes
  go_enter Tryz.func45, Tryz.ntmps45
  go_wp2_with (at_make; refine wpList_make_own _ rfl _ _ _ rfl w.heap.size 28 i0 (.int .u64 0) 1 Tryz.underlying34 hi hz0 hz1 .i64 .i64 room room rfl rfl rfl HB.out (by simp only [maxLen]; omega) (Nat.le_refl _) ?_; intro w1 hown hgrow)
  go_ret2
  refine ⟨w1.heap.size, w.heap.size, rfl, ⟨⟨room, Blk.new _ _ _, hown.alloc _, Nat.le_refl _⟩, hgrow.size, Nat.zero_le _, h, by simp⟩, ?_⟩
  exact (((Below.refl _ _).grown hgrow (Nat.le_refl _) (fun k hk => by cases hk)).alloc hgrow.size _)

/-! ### An Area that is there -/
section
variable {w : World} {base g h : Nat} {l : List Int} {room : Nat}
set_option maxHeartbeats 400000 in
theorem free_any (a : Ar w base g h l room) : Calls Tryz.prog 92 #[.pointer (some ⟨g, 0, none⟩)] w fun e w' => e = .returned (.int .i64 ((room : Int) - l.length)) ∧ w.drew = w' := by
  obtain ⟨cap, hb, _, _⟩ := a.blk
  have hf := a.fits
  have hm := a.most
  have c0 : w.cell? ⟨g, 0, none⟩ = some (.slice (some ⟨h, 0, none⟩) l.length cap) := hb.cell 0
  have c1 : w.cell? ⟨g, 1, none⟩ = some (.int .i64 room) := hb.cell 1
  clear hb a
  go_enter Tryz.func92, Tryz.ntmps92
  go_wp2_with fail
  go_region
  go_wp2_with fail
  go_ret
  exact ⟨rfl, rfl⟩
set_option maxHeartbeats 400000 in
theorem atop_any (a : Ar w base g h l room) : Calls Tryz.prog 28 #[.pointer (some ⟨g, 0, none⟩)] w fun e w' => e = .returned (.int .i64 l.length) ∧ w = w' := by
  obtain ⟨cap, hb, _, _⟩ := a.blk
  have c0 : w.cell? ⟨g, 0, none⟩ = some (.slice (some ⟨h, 0, none⟩) l.length cap) := hb.cell 0
  clear hb a
  go_enter Tryz.func28, Tryz.ntmps28
  go_wp2_with fail
  go_ret
  exact ⟨rfl, rfl⟩
def inside (i : Int) (n : Nat) : Bool := decide (0 ≤ i) && decide (i < n)
set_option maxHeartbeats 400000 in
theorem has_any (a : Ar w base g h l room) (i : Int) : Calls Tryz.prog 72 #[.pointer (some ⟨g, 0, none⟩), .int .i64 i] w fun e w' => e = .returned (.bool (inside i l.length)) ∧ w = w' := by
  obtain ⟨cap, hb, _, _⟩ := a.blk
  have c0 : w.cell? ⟨g, 0, none⟩ = some (.slice (some ⟨h, 0, none⟩) l.length cap) := hb.cell 0
  clear hb a
  by_cases h0 : 0 ≤ i
  · have d0 : decide (0 ≤ i) = true := by simpa using h0
    by_cases h1 : i < l.length
    · have d1 : decide (i < (l.length : Int)) = true := by simpa using h1
      have HR : Hid (inside i l.length = true) := by show _ = _; simp [inside, h0, h1]
      go_enter Tryz.func72, Tryz.ntmps72
      go_wp2_with fail
      go_ret
      exact ⟨by rw [HR.out]; rfl, rfl⟩
    · have d1 : decide (i < (l.length : Int)) = false := by simpa using h1
      have HR : Hid (inside i l.length = false) := by show _ = _; simp [inside, h1]
      go_enter Tryz.func72, Tryz.ntmps72
      go_wp2_with fail
      go_ret
      exact ⟨by rw [HR.out]; rfl, rfl⟩
  · have d0 : decide (0 ≤ i) = false := by simpa using h0
    have HR : Hid (inside i l.length = false) := by show _ = _; simp [inside, h0]
    go_enter Tryz.func72, Tryz.ntmps72
    go_wp2_with fail
    go_ret
    exact ⟨by rw [HR.out]; rfl, rfl⟩
end
end Go.Proofs.YtnonfmaehfmigaaGreatDoor
