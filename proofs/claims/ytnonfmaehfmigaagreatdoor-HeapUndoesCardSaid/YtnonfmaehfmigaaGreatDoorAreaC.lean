/- The other contracts of package area: Get, Set, Cells, and those without a look. -/
import Derived.Test.YtnonfmaehfmigaaGreatDoorAreaB
import Derived.Deep.RegionLaw
import Derived.Deep.RegionWith
namespace Go.Proofs.YtnonfmaehfmigaaGreatDoor
open Go.RowKit

section
variable {w : World} {base g h : Nat} {l : List Int} {room : Nat}
theorem inside_iff {i : Int} {n : Nat} : inside i n = true ↔ ∃ k : Nat, i = k ∧ k < n := by
  unfold inside
  rw [Bool.and_eq_true, decide_eq_true_eq, decide_eq_true_eq]
  constructor
  · rintro ⟨h1, h2⟩
    obtain ⟨k, rfl⟩ := Int.eq_ofNat_of_zero_le h1
    exact ⟨k, rfl, by omega⟩
  · rintro ⟨k, rfl, hk⟩
    omega

set_option maxHeartbeats 400000 in
theorem get_yes (a : Ar w base g h l room) (k : Nat) (x : Int) (hx : l[k]? = some x) :
    Calls Tryz.prog 70 #[.pointer (some ⟨g, 0, none⟩), .int .i64 k] w fun e w' => e = .returned (.tuple #[.int .u64 x, .bool true]) ∧ w = w' := by
  have hk : k < l.length := (List.getElem?_eq_some_iff.1 hx).1
  have HA := Lib.hid a
  have HI : Hid (inside (k : Int) l.length = true) := inside_iff.2 ⟨k, rfl, hk⟩
  obtain ⟨cap, hb, ho, _⟩ := a.blk
  have c0 : w.cell? ⟨g, 0, none⟩ = some (.slice (some ⟨h, 0, none⟩) l.length cap) := hb.cell 0
  have c1 : w.cell? ⟨h, k, none⟩ = some (.int .u64 x) := by rw [ho.cellAt _ (by omega), List.getElem?_map, hx]; rfl
  clear a hb ho hx
  go_enter Tryz.func70, Tryz.ntmps70
  go_wp2_with fail
  refine (has_any HA.out k).mono ?_
  rintro e w' ⟨rfl, rfl⟩
  rw [HI.out]
  go_wp2_with fail
  go_ret2
  exact ⟨rfl, rfl⟩
set_option maxHeartbeats 400000 in
theorem get_no (a : Ar w base g h l room) (i : Int) (hi : inside i l.length = false) :
    Calls Tryz.prog 70 #[.pointer (some ⟨g, 0, none⟩), .int .i64 i] w fun e w' => e = .returned (.tuple #[.int .u64 0, .bool false]) ∧ w = w' := by
  have HA := Lib.hid a
  have HI := Lib.hid hi
  clear a hi
  go_enter Tryz.func70, Tryz.ntmps70
  go_wp2_with fail
  refine (has_any HA.out i).mono ?_
  rintro e w' ⟨rfl, rfl⟩
  rw [HI.out]
  go_wp2_with fail
  go_ret2
  exact ⟨rfl, rfl⟩

theorem Ar.set_ (a : Ar w base g h l room) (k : Nat) (c : Int) (hc : 0 ≤ c ∧ c < 18446744073709551616) : Ar (w.setCell ⟨h, k, none⟩ (.int .u64 c)) base g h (l.set k c) room := by
  have hne := a.lt.2.2.1
  obtain ⟨cap, hb, ho, hcap⟩ := a.blk
  refine ⟨⟨cap, ?_, ?_, hcap⟩, a.low, by rw [List.length_set]; exact a.fits, a.most, fun x hx => ?_⟩
  · rw [List.length_set]
    exact hb.far (p := ⟨h, k, none⟩) hne _
  · rw [List.length_set, List.map_set]
    exact (ho.stored k _).1
  · rcases List.mem_or_eq_of_mem_set hx with hx | rfl
    · exact a.bytes x hx
    · exact hc
/-- What Set leaves, where it may be. -/
def SetAt (w : World) (base g h : Nat) (l : List Int) (room k : Nat) (c : Int) (r : Value) (e : Ending) (w' : World) : Prop :=
  e = .returned r ∧ Ar w' base g h (l.set k c) room ∧ Keeps w w' [g, h]
set_option maxHeartbeats 400000 in
theorem set_yes (a : Ar w base g h l room) (k : Nat) (c : Int) (hk : k < l.length) (hc0 : 0 ≤ c) (hc1 : c < 18446744073709551616) (hr : right c = true) :
    Calls Tryz.prog 38 #[.pointer (some ⟨g, 0, none⟩), .int .i64 k, .int .u64 c] w (SetAt w base g h l room k c (.bool true)) := by
  have HA := Lib.hid a
  have HI : Hid (inside (k : Int) l.length = true) := inside_iff.2 ⟨k, rfl, hk⟩
  have HR := Lib.hid hr
  obtain ⟨cap, hb, ho, _⟩ := a.blk
  obtain ⟨old, hold⟩ : ∃ old, w.cell? ⟨h, k, none⟩ = some (.int .u64 old) := ⟨l[k], by rw [ho.cellAt _ (by omega), List.getElem?_map, List.getElem?_eq_getElem hk]; rfl⟩
  have c0 : w.cell? ⟨g, 0, none⟩ = some (.slice (some ⟨h, 0, none⟩) l.length cap) := hb.cell 0
  have c1 : w.frozen? ⟨h, k, none⟩ = false := ho.frozenAt k
  clear a hb ho hr
  go_enter Tryz.func38, Tryz.ntmps38
  go_wp2_with fail
  refine (has_any HA.out k).mono ?_
  rintro e w' ⟨rfl, rfl⟩
  rw [HI.out]
  go_wp2_with fail
  refine (right_any c _ hc0 hc1).mono ?_
  rintro e w' ⟨rfl, rfl⟩
  rw [HR.out]
  go_wp2_with fail
  go_ret
  exact ⟨rfl, HA.out.set_ k c ⟨hc0, hc1⟩, (Keeps.refl w _).setCell (.inl (by simp)) _⟩
set_option maxHeartbeats 400000 in
theorem set_no (a : Ar w base g h l room) (i c : Int) (hc0 : 0 ≤ c) (hc1 : c < 18446744073709551616) (hn : inside i l.length = false ∨ right c = false) :
    Calls Tryz.prog 38 #[.pointer (some ⟨g, 0, none⟩), .int .i64 i, .int .u64 c] w fun e w' => e = .returned (.bool false) ∧ w = w' := by
  have HA := Lib.hid a
  clear a
  by_cases hi : inside i l.length = true
  · have HR : Hid (right c = false) := hn.resolve_left (by rw [hi]; simp)
    have HI := Lib.hid hi
    clear hi hn
    go_enter Tryz.func38, Tryz.ntmps38
    go_wp2_with fail
    refine (has_any HA.out i).mono ?_
    rintro e w' ⟨rfl, rfl⟩
    rw [HI.out]
    go_wp2_with fail
    refine (right_any c _ hc0 hc1).mono ?_
    rintro e w' ⟨rfl, rfl⟩
    rw [HR.out]
    go_wp2_with fail
    go_ret
    exact ⟨rfl, rfl⟩
  · have HI : Hid (inside i l.length = false) := by show _ = _; simpa using hi
    clear hi hn
    go_enter Tryz.func38, Tryz.ntmps38
    go_wp2_with fail
    refine (has_any HA.out i).mono ?_
    rintro e w' ⟨rfl, rfl⟩
    rw [HI.out]
    go_wp2_with fail
    go_ret
    exact ⟨rfl, rfl⟩

/-- A copy of a row, of the call's own. -/
def Copied (w : World) (e : TypeId) (l : List Int) (r : Ending) (w' : World) : Prop :=
  ∃ A c, r = .returned (.slice A l.length c) ∧ w'.ownsRow w.heap.size e 1 (.slice A l.length c) l.length (l.map (Value.int .u64)) ∧ Below w.heap.size w w'
set_option maxHeartbeats 400000 in
theorem clone_any (A : Addr) (n c : Nat) (B : Nat) (hl : l.length = n) (hn : n ≤ 65536) (hA : Nums .u64 w B (some A) l) :
    Calls Tryz.prog 55 #[.slice (some A) n c] w (Copied w 28 l) := by
  obtain ⟨i0, hi, hz0, hz1, hz2⟩ := info_parts info_cell
  have HL := Lib.hid hl
  have hBs : Nums .u64 w w.heap.size (some A) l := fun k hk => by
    obtain ⟨b, off, x, e1, e2, e3, e4⟩ := hA k hk
    exact ⟨b, off, x, e1, World.block_lt_of_cell? w _ e3, e3, e4⟩
  have HA := Lib.hid hBs
  have hne := Lib.run_eql_slice_nil (P := Tryz.prog)
  clear hl hA hBs
  go_enter Tryz.func55, Tryz.ntmps55
  go_wp2_with (at_builtin; refine wpList_append_row _ rfl (.tmp 5) (.tmp 6) _ rfl w.heap.size 28 i0 _ 1 8 Tryz.underlying34 hi hz0 hz1 hz2 rfl (by omega) (some ⟨w.heap.size, 0, none⟩) 0 0 [] rfl (World.ownsRow_made _ #[] 0 (Nat.le_refl _) (Nat.zero_le _) rfl) w.heap.size (some A) n c (l.map (Value.int .u64)) rfl (HA.out.alloc (Nat.le_refl _) _).toRow (by rw [List.length_map, HL.out, Nat.mul_one]) (fun hh => by cases hh) (oneCell_ints _ _) (by simp only [maxLen]; omega) (by omega) (by simp) ?_; intro A' c' w1 hown hgrow hat)
  go_ret
  refine ⟨A', c', ?_, ?_, ((Below.refl _ _).alloc (Nat.le_refl _) _).grown hgrow (by simp) (fun k hk => by simp [Value.ownBlock] at hk; omega)⟩
  · rw [HL.out]; rfl
  · rw [HL.out]
    simpa using hown
set_option maxHeartbeats 400000 in
theorem cells_any (a : Ar w base g h l room) : Calls Tryz.prog 27 #[.pointer (some ⟨g, 0, none⟩)] w (Copied w 28 l) := by
  have hm := a.most
  have hf := a.fits
  obtain ⟨cap, hb, ho, _⟩ := a.blk
  have c0 : w.cell? ⟨g, 0, none⟩ = some (.slice (some ⟨h, 0, none⟩) l.length cap) := hb.cell 0
  have HN := Lib.hid (Row.of_own ho).toNums
  clear a hb ho
  go_enter Tryz.func27, Tryz.ntmps27
  go_wp2_with fail
  refine (clone_any _ _ _ _ rfl (by omega) HN.out).mono ?_
  rintro e w1 ⟨A', c', rfl, hown, hb1⟩
  go_wp2_with fail
  go_ret
  exact ⟨A', c', rfl, hown, hb1⟩

/-! ### Without a look -/
end
end Go.Proofs.YtnonfmaehfmigaaGreatDoor
