/- More contracts of package area: those that write. -/
import Derived.Test.YtnonfmaehfmigaaGreatDoorArea
namespace Go.Proofs.YtnonfmaehfmigaaGreatDoor
open Go.RowKit

section
variable {w : World} {base g h : Nat} {l : List Int} {room : Nat}

/-- What Push leaves, where there is room. -/
def Pushed (w : World) (base g h : Nat) (l : List Int) (room : Nat) (c : Int) (r : Value) (e : Ending) (w' : World) : Prop :=
  e = .returned r ∧ Ar w' base g h (l ++ [c]) room ∧ Keeps w w' [g, h]
set_option maxHeartbeats 800000 in
theorem push_yes (a : Ar w base g h l room) (c : Int) (hc0 : 0 ≤ c) (hc1 : c < 18446744073709551616) (hr : right c = true) (hlt : l.length < room) :
    Calls Tryz.prog 86 #[.pointer (some ⟨g, 0, none⟩), .int .u64 c] w (Pushed w base g h l room c (.bool true)) := by
  obtain ⟨i0, hi, hz0, hz1, hz2⟩ := info_parts info_cell
  have HA := Lib.hid a
  obtain ⟨cap, hb, ho, hcap⟩ := a.blk
  have hlts := a.lt
  have hm := a.most
  have HB := Lib.hid hb
  have HO := Lib.hid ho
  have HR := Lib.hid hr
  have t1 : ((room : Int) - l.length == 0) = false := by simp; omega
  have hg1 := hlts.1
  have hh1 := hlts.2.1
  have HN := Lib.hid hlts.2.2.1
  have hbase := hlts.2.2.2
  have hcell : w.cell? ⟨g, 0, none⟩ = some (.slice (some ⟨h, 0, none⟩) l.length cap) := hb.cell 0
  clear a hb ho hr hlts
  go_enter Tryz.func86, Tryz.ntmps86
  go_wp2_with fail
  refine (free_any HA.out).mono ?_
  rintro e w' ⟨rfl, rfl⟩
  go_wp2_with fail
  refine (right_any c _ hc0 hc1).mono ?_
  rintro e w' ⟨rfl, rfl⟩
  rw [HR.out]
  go_wp2_with (at_builtin; refine wpList_append_fits _ rfl (.tmp 17) (.tmp 19) _ rfl base 28 i0 1 Tryz.underlying34 hi hz1 h l.length cap _ rfl ((HO.out.drew).alloc _) ⟨w.heap.size, 0, none⟩ 1 1 [.int .u64 c] rfl rfl (cell_one_new _ _ _) (by intro u hu; simp at hu; subst hu; rfl) (by omega) ?_; intro w1 hown hgrow; have hb1 := Lib.hid (((HB.out.drew).alloc (.cells #[.int .u64 c] 28)).grown hgrow (fun e => HN.out (by injection e))); have hc1 : w1.cell? ⟨g, 0, none⟩ = some (.slice (some ⟨h, 0, none⟩) l.length cap) := hb1.out.cell 0; have hf1 : w1.frozen? ⟨g, 0, none⟩ = false := hb1.out.frozen 0)
  go_ret
  have hk : Keeps w w1 [g, h] := (((Keeps.refl w _).drew).alloc _).grown hgrow (fun k hk => .inl (by injection hk with hk; subst hk; simp))
  have hneg : h ≠ (⟨g, 0, none⟩ : Addr).block := fun e => HN.out e.symm
  refine ⟨rfl, ⟨⟨cap, ?_, ?_, hcap⟩, HA.out.low, by rw [List.length_append]; simp; omega, hm, ?_⟩, hk.setCell (.inl (by simp)) _⟩
  · rw [List.length_append]
    exact hb1.out.set_ 0 _
  · rw [List.length_append, List.map_append]
    exact own_keep hown (Keeps.setCell (S := [g]) (p := ⟨g, 0, none⟩) (Keeps.refl w1 [g]) (.inl (by simp)) _) (by simpa using hneg)
  · intro x hx
    rcases List.mem_append.1 hx with hx | hx
    · exact HA.out.bytes x hx
    · simp at hx; subst hx; exact ⟨hc0, hc1⟩
set_option maxHeartbeats 400000 in
/-- There is no room, or it is no cell. -/
theorem push_no (a : Ar w base g h l room) (c : Int) (hc0 : 0 ≤ c) (hc1 : c < 18446744073709551616) (hn : l.length = room ∨ right c = false) :
    Calls Tryz.prog 86 #[.pointer (some ⟨g, 0, none⟩), .int .u64 c] w fun e w' => e = .returned (.bool false) ∧ w.drew = w' := by
  have hm := a.most
  have hfit := a.fits
  have HA := Lib.hid a
  clear a
  by_cases hl : l.length = room
  · have t1 : ((room : Int) - l.length == 0) = true := by simp; omega
    clear hn hl
    go_enter Tryz.func86, Tryz.ntmps86
    go_wp2_with fail
    refine (free_any HA.out).mono ?_
    rintro e w' ⟨rfl, rfl⟩
    go_wp2_with fail
    go_ret
    exact ⟨rfl, rfl⟩
  · have t1 : ((room : Int) - l.length == 0) = false := by simp; omega
    have HR := Lib.hid (hn.resolve_left hl)
    clear hn hl
    go_enter Tryz.func86, Tryz.ntmps86
    go_wp2_with fail
    refine (free_any HA.out).mono ?_
    rintro e w' ⟨rfl, rfl⟩
    go_wp2_with fail
    refine (right_any c _ hc0 hc1).mono ?_
    rintro e w' ⟨rfl, rfl⟩
    rw [HR.out]
    go_wp2_with fail
    go_ret
    exact ⟨rfl, rfl⟩

/-- What Cut leaves, where it may be. -/
def CutTo (w : World) (base g h : Nat) (l : List Int) (room n : Nat) (e : Ending) (w' : World) : Prop :=
  e = .returned (.bool true) ∧ Ar w' base g h (l.take n) room ∧ Keeps w w' [g, h]
set_option maxHeartbeats 800000 in
theorem cut_yes (a : Ar w base g h l room) (n : Nat) (hn : n ≤ l.length) :
    Calls Tryz.prog 32 #[.pointer (some ⟨g, 0, none⟩), .int .i64 n] w (CutTo w base g h l room n) := by
  have HA := Lib.hid a
  obtain ⟨cap, hb, ho, hcap⟩ := a.blk
  have hm := a.most
  have hfit := a.fits
  have hle : l.length ≤ cap := by omega
  have hcell : w.cell? ⟨g, 0, none⟩ = some (.slice (some ⟨h, 0, none⟩) l.length cap) := hb.cell 0
  have hfr : w.frozen? ⟨g, 0, none⟩ = false := hb.frozen 0
  have HB := Lib.hid hb
  have HO := Lib.hid ho
  have d1 : decide ((n : Int) < 0) = false := by simp
  have d2 : decide ((l.length : Int) < n) = false := by simp; omega
  obtain ⟨cur, hcur, hcs, _⟩ := own_block ho
  clear a hb ho
  go_enter Tryz.func32, Tryz.ntmps32
  go_wp2_with fail
  go_ret
  have hneg : h ≠ (⟨g, 0, none⟩ : Addr).block := fun e => (HA.out.lt).2.2.1 e.symm
  refine ⟨rfl, ⟨⟨cap, ?_, ?_, hcap⟩, HA.out.low, by rw [List.length_take]; omega, hm, fun x hx => HA.out.bytes x (List.mem_of_mem_take hx)⟩, (Keeps.refl w _).setCell (.inl (by simp)) _⟩
  · have e : (l.take n).length = n := by rw [List.length_take]; omega
    rw [e]
    exact HB.out.set_ 0 _
  · have e : (l.take n).length = n := by rw [List.length_take]; omega
    rw [e, List.map_take]
    exact own_keep (own_cut HO.out n hn) (Keeps.setCell (S := [g]) (p := ⟨g, 0, none⟩) (Keeps.refl w [g]) (.inl (by simp)) _) (by simpa using hneg)
set_option maxHeartbeats 400000 in
theorem cut_no (a : Ar w base g h l room) (n : Int) (hn : n < 0 ∨ (l.length : Int) < n) :
    Calls Tryz.prog 32 #[.pointer (some ⟨g, 0, none⟩), .int .i64 n] w fun e w' => e = .returned (.bool false) ∧ w = w' := by
  obtain ⟨cap, hb, ho, hcap⟩ := a.blk
  have hcell : w.cell? ⟨g, 0, none⟩ = some (.slice (some ⟨h, 0, none⟩) l.length cap) := hb.cell 0
  clear a hb ho
  by_cases h0 : n < 0
  · have d1 : decide (n < 0) = true := by simpa using h0
    clear hn
    go_enter Tryz.func32, Tryz.ntmps32
    go_wp2_with fail
    go_ret
    exact ⟨rfl, rfl⟩
  · have d1 : decide (n < 0) = false := by simpa using h0
    have d2 : decide ((l.length : Int) < n) = true := by simpa using hn.resolve_left h0
    clear hn
    go_enter Tryz.func32, Tryz.ntmps32
    go_wp2_with fail
    go_ret
    exact ⟨rfl, rfl⟩
end

/-! ### told -/
end Go.Proofs.YtnonfmaehfmigaaGreatDoor
