/- The contracts of the document's Area. -/
import Derived.Test.YtanabifmeahfdaaAreaC
namespace Go.Proofs.Ytanabifmeahfdaa
open Go.RowKit

set_option maxHeartbeats 400000 in
theorem refRight_any (c : Int) (w : World) (h0 : 0 ≤ c) (h1 : c < 18446744073709551616) : Calls Try.prog 33 #[.int .u64 c] w fun e w' => e = .returned (.bool (right c)) ∧ w = w' := by
  by_cases ha : c % 8 ≤ 4
  · have da : decide (c % 8 ≤ 4) = true := by simpa using ha
    by_cases hb : c / 8 < 1099511627776
    · have HR : Hid (right c = true) := by show _ = _; simp [right, ha, hb]
      have db : decide (c / 8 < 1099511627776) = true := by simpa using hb
      go_enter Try.func33, Try.ntmps33
      go_wp2_with fail
      go_ret
      exact ⟨by rw [HR.out]; rfl, rfl⟩
    · have HR : Hid (right c = false) := by show _ = _; simp [right, hb]
      have db : decide (c / 8 < 1099511627776) = false := by simpa using hb
      go_enter Try.func33, Try.ntmps33
      go_wp2_with fail
      go_ret
      exact ⟨by rw [HR.out]; rfl, rfl⟩
  · have HR : Hid (right c = false) := by show _ = _; simp [right, ha]
    have da : decide (c % 8 ≤ 4) = false := by simpa using ha
    go_enter Try.func33, Try.ntmps33
    go_wp2_with fail
    go_ret
    exact ⟨by rw [HR.out]; rfl, rfl⟩

theorem info_u64 : (Try.prog.info? 30).map (fun i => (i.zero, i.size, i.bytes)) = some (some (.int .u64 0), 1, 8) := by kernel_rfl

/-- The document's Area behind a pointer: its block; the row of its cells is its own. -/
structure RA (w : World) (base g : Nat) (l : List Int) (room : Nat) : Prop where
  blk : ∃ A c, Blk w g 51 #[.slice A l.length c, .int .i64 room] ∧ w.ownsRow base 30 1 (.slice A l.length c) l.length (l.map (Value.int .u64))
  low : base ≤ g
  fits : l.length ≤ room
  most : room ≤ 65536
  bytes : ∀ x ∈ l, 0 ≤ x ∧ x < 18446744073709551616

theorem ownAny_keep {w w' : World} {S : List Nat} {base : Nat} {e : TypeId} {size n : Nat} {v : Value} {xs : List Value} (ho : w.ownsRow base e size v n xs) (k : Keeps w w' S) (hn : ∀ h cur, h ∈ S → ¬ Blk w h e cur) : w'.ownsRow base e size v n xs := by
  refine ⟨ho.1, ?_⟩
  rcases ho.2 with h' | ⟨g, cap, cur, he, hb, hg, r⟩
  · exact .inl h'
  · exact .inr ⟨g, cap, cur, he, hb, (k.block g (Array.getElem?_eq_some_iff.1 hg).1 (fun hm => hn g cur hm hg)).trans hg, r⟩
theorem RA.keep {w w' : World} {S : List Nat} {base g : Nat} {l : List Int} {room : Nat} (a : RA w base g l room) (k : Keeps w w' S) (hg : g ∉ S) (hn : ∀ h cur, h ∈ S → ¬ Blk w h 30 cur) : RA w' base g l room := by
  obtain ⟨A, c, hb, ho⟩ := a.blk
  exact ⟨⟨A, c, hb.keep k hg, ownAny_keep ho k hn⟩, a.low, a.fits, a.most, a.bytes⟩
theorem RA.keep0 {w w' : World} {base g : Nat} {l : List Int} {room : Nat} (a : RA w base g l room) (k : Keeps w w' []) : RA w' base g l room := a.keep k (by simp) (fun h cur hh => by simp at hh)
/-- Behind what an Area's calls write. -/
theorem RA.beside {w w' : World} {base b2 g g2 h2 : Nat} {l l2 : List Int} {room r2 : Nat} (a : RA w base g l room) (ar : Ar w b2 g2 h2 l2 r2) (k : Keeps w w' [g2, h2]) : RA w' base g l room := by
  obtain ⟨cap, hb, ho, _⟩ := ar.blk
  obtain ⟨cur, hcur, _⟩ := own_block ho
  obtain ⟨A, c, hbr, hor⟩ := a.blk
  refine a.keep k ?_ ?_
  · intro hm
    simp at hm
    rcases hm with rfl | rfl
    · exact (hbr.ne_ hb (by decide)) rfl
    · exact (hbr.ne_ hcur (by decide)) rfl
  · intro h cur2 hm hc
    simp at hm
    rcases hm with rfl | rfl
    · exact (hc.ne_ hb (by decide)) rfl
    · exact (hc.ne_ hcur (by decide)) rfl
/-- And an Area behind what the document's writes. -/
theorem Ar.beside {w w' : World} {base b2 g g2 h2 : Nat} {l l2 : List Int} {room r2 : Nat} (ar : Ar w b2 g2 h2 l2 r2) (a : RA w base g l room) (k : Keeps w w' [g]) : Ar w' b2 g2 h2 l2 r2 := by
  obtain ⟨cap, hb, ho, _⟩ := ar.blk
  obtain ⟨cur, hcur, _⟩ := own_block ho
  obtain ⟨A, c, hbr, hor⟩ := a.blk
  refine ar.keep k ?_ ?_
  · intro hm
    simp at hm
    exact (hb.ne_ hbr (by decide)) hm
  · intro hm
    simp at hm
    exact (hcur.ne_ hbr (by decide)) hm

theorem own_base {w : World} {base base' : Nat} {e : TypeId} {size n : Nat} {v : Value} {xs : List Value} (ho : w.ownsRow base e size v n xs) (hb : base' ≤ base) : w.ownsRow base' e size v n xs := by
  refine ⟨ho.1, ?_⟩
  rcases ho.2 with h' | ⟨g, cap, cur, he, h1, r⟩
  · exact .inl h'
  · exact .inr ⟨g, cap, cur, he, by omega, r⟩
/-- A row of another type is as it was behind a store into a block that is known. -/
theorem own_beside {w : World} {base g : Nat} {t e : TypeId} {cs : Array Value} {size n : Nat} {v : Value} {xs : List Value} (ho : w.ownsRow base e size v n xs) (hb : Blk w g t cs) (hne : e ≠ t) (i : Nat) (u : Value) : (w.setCell ⟨g, i, none⟩ u).ownsRow base e size v n xs :=
  ownAny_keep ho (Keeps.setCell (S := [g]) (p := ⟨g, i, none⟩) (Keeps.refl w [g]) (.inl (by simp)) u) (fun h cur hm hc => by
    simp at hm
    subst hm
    exact (hc.ne_ hb hne) rfl)

section
variable {w : World} {base g : Nat} {l : List Int} {room : Nat}
/-- What the document's Push leaves, where there is room. -/
def RPushed (w : World) (base g : Nat) (l : List Int) (room : Nat) (c : Int) (e : Ending) (w' : World) : Prop :=
  e = .returned (.bool true) ∧ RA w' base g (l ++ [c]) room ∧ Keeps w w' [g]
set_option maxHeartbeats 1600000 in
theorem rpush_yes (a : RA w base g l room) (c : Int) (hc0 : 0 ≤ c) (hc1' : c < 18446744073709551616) (hr : right c = true) (hlt : l.length < room) (hbase : base ≤ w.heap.size) :
    Calls Try.prog 22 #[.pointer (some ⟨g, 0, none⟩), .int .u64 c] w (RPushed w base g l room c) := by
  obtain ⟨i0, hi, hz0, hz1, hz2⟩ := info_parts info_u64
  have HA := Lib.hid a
  obtain ⟨A, cap, hb, ho⟩ := a.blk
  have hm := a.most
  have HR := Lib.hid hr
  have d1 : decide (room ≤ l.length) = false := by simp; omega
  have c0 : w.cell? ⟨g, 0, none⟩ = some (.slice A l.length cap) := hb.cell 0
  have c1 : w.cell? ⟨g, 1, none⟩ = some (.int .i64 room) := hb.cell 1
  have hg1 := hb.lt
  have HB := Lib.hid hb
  have hrow : Row w w.heap.size A (l.map (Value.int .u64)) := Row.of_own ho
  have hcap : A = none → cap = 0 := by
    intro hA
    subst hA
    rcases ho.2 with ⟨h', _⟩ | ⟨g', cap', cur, h', _⟩
    · injection h'
    · simp at h'
  have HRow := Lib.hid hrow
  have HC := Lib.hid hcap
  clear a hb ho hr hrow hcap
  go_enter Try.func22, Try.ntmps22
  go_wp2_with fail
  go_quiet ((go_at_call 33; exact Calls.quiet_of_same ((refRight_any c _ hc0 hc1').mono fun e w' h => ⟨h.1.trans (by rw [HR.out]), h.2.symm⟩)))
  obtain ⟨W, hW⟩ : ∃ W, W = w.drewN nq := ⟨_, rfl⟩
  rw [← hW]
  have hBW : Blk W g 51 #[.slice A l.length cap, .int .i64 room] := by rw [hW]; exact HB.out.drewN nq
  have HRW : Hid (Row W W.heap.size A (l.map (Value.int .u64))) := by show Row _ _ _ _; rw [hW]; exact HRow.out.keep (fun _ _ => rfl)
  have hKW : Keeps w W [g] := by rw [hW]; exact (Keeps.refl w _).drewN nq
  have hgW := hBW.lt
  have c0W : ∀ o, (W.alloc o).cell? ⟨g, 0, none⟩ = some (.slice A l.length cap) := fun o => (World.cell?_alloc_lt W o _ hgW).trans (hBW.cell 0)
  have HBW := Lib.hid hBW
  have HKW := Lib.hid hKW
  clear hW HRow HB c0 c1 hBW hKW
  go_wp2_with (first
    | (at_builtin; refine wpList_append_row _ rfl (.tmp 21) (.tmp 25) _ rfl W.heap.size 30 i0 _ 1 8 Try.underlying49 hi hz0 hz1 hz2 rfl (by omega) (some ⟨W.heap.size, 0, none⟩) 0 0 [] rfl (World.ownsRow_made _ #[] 0 (Nat.le_refl _) (Nat.zero_le _) rfl) W.heap.size A l.length cap (l.map (Value.int .u64)) rfl (HRW.out.alloc (Nat.le_refl _) _) (by rw [List.length_map, Nat.mul_one]) HC.out (oneCell_ints _ _) (by simp only [maxLen]; omega) (by omega) (by simp) ?_; intro A1 k1 w1 hown1 hgrow1 hat1; simp only [Nat.zero_add, List.nil_append] at hown1 hat1; have HO1 := Lib.hid hown1; have HG1 := Lib.hid hgrow1; have hs1 := hgrow1.size; simp only [World.size_alloc] at hs1; clear hown1 hgrow1 hat1)
    | (at_builtin; refine wpList_append_row _ rfl (.tmp 26) (.tmp 28) _ rfl W.heap.size 30 i0 _ 1 8 Try.underlying49 hi hz0 hz1 hz2 rfl (by omega) A1 l.length k1 (l.map (Value.int .u64)) rfl (HO1.out.alloc _) (w1.heap.size + 1) (some ⟨w1.heap.size, 0, none⟩) 1 1 [.int .u64 c] rfl (Nums.lit (K := .u64) w1 30 (0, 0) [c] rfl).toRow rfl (fun hh => by cases hh) (by intro u hu; simp at hu; subst hu; rfl) (by simp only [maxLen]; omega) (by omega) (by simp; omega) ?_; intro A2 k2 w2 hown2 hgrow2 hat2; have hkk : Keeps w w2 [g] := ((((HKW.out.alloc _).grown HG1.out (fun k hk => .inr (by simp [Value.ownBlock] at hk; have := HKW.out.size; omega))).alloc _).grown hgrow2 (fun k hk => .inr (by have := (HO1.out.lt k hk).1; have := HKW.out.size; omega))); have hb2 := Lib.hid ((((HBW.out.alloc (.cells #[] 30)).grown HG1.out (fun e => by simp [Value.ownBlock] at e; omega)).alloc (.cells #[.int .u64 c] 30)).grown hgrow2 (fun e => by have := (HO1.out.lt g e.symm).1; omega)); have cc : w2.cell? ⟨g, 0, none⟩ = some (.slice A l.length cap) := hb2.out.cell 0; have cf : w2.frozen? ⟨g, 0, none⟩ = false := hb2.out.frozen 0; have HO2 := Lib.hid hown2; have HK2 := Lib.hid hkk; clear hown2 hkk hgrow2 hat2))
  go_ret
  have hsw : base ≤ W.heap.size := Nat.le_trans hbase HKW.out.size
  refine ⟨rfl, ⟨⟨A2, k2, ?_, ?_⟩, HA.out.low, by rw [List.length_append]; simp; omega, hm, ?_⟩, HK2.out.setCell (.inl (by simp)) _⟩
  · rw [List.length_append]
    exact hb2.out.set_ 0 _
  · rw [List.length_append, List.map_append]
    exact own_base (own_beside HO2.out hb2.out (by decide) 0 _) hsw
  · intro x hx
    rcases List.mem_append.1 hx with hx | hx
    · exact HA.out.bytes x hx
    · simp at hx; subst hx; exact ⟨hc0, hc1'⟩
set_option maxHeartbeats 1600000 in
theorem rpush_no (a : RA w base g l room) (c : Int) (hc0 : 0 ≤ c) (hc1 : c < 18446744073709551616) (hn : l.length = room ∨ right c = false) :
    Calls Try.prog 22 #[.pointer (some ⟨g, 0, none⟩), .int .u64 c] w fun e w' => e = .returned (.bool false) ∧ ∃ k, w' = w.drewN k := by
  obtain ⟨A, cap, hb, ho⟩ := a.blk
  have hm := a.most
  have hfit := a.fits
  have c0 : w.cell? ⟨g, 0, none⟩ = some (.slice A l.length cap) := hb.cell 0
  have c1 : w.cell? ⟨g, 1, none⟩ = some (.int .i64 room) := hb.cell 1
  clear a hb ho
  by_cases hl : l.length = room
  · have d1 : decide (room ≤ l.length) = true := by simp; omega
    clear hn hl
    go_enter Try.func22, Try.ntmps22
    go_wp2_with fail
    go_quiet (fail)
    go_wp2_with fail
    go_ret
    exact ⟨rfl, _, rfl⟩
  · have d1 : decide (room ≤ l.length) = false := by simp; omega
    have HR := Lib.hid (hn.resolve_left hl)
    clear hn hl
    go_enter Try.func22, Try.ntmps22
    go_wp2_with fail
    go_quiet ((go_at_call 33; exact Calls.quiet_of_same ((refRight_any c _ hc0 hc1).mono fun e w' h => ⟨h.1.trans (by rw [HR.out]), h.2.symm⟩)))
    go_wp2_with fail
    go_ret
    exact ⟨rfl, _, rfl⟩

theorem ra_cellAt {A : Option Addr} {cap : Nat} (ho : w.ownsRow base 30 1 (.slice A l.length cap) l.length (l.map (Value.int .u64))) {k : Nat} {x : Int} (hx : l[k]? = some x) :
    ∃ b off, A = some ⟨b, off, none⟩ ∧ w.cell? ⟨b, off + k, none⟩ = some (.int .u64 x) := by
  obtain ⟨b, off, y, hA, _, hc, hy⟩ := (Row.of_own ho).toNums k (List.getElem?_eq_some_iff.1 hx).1
  rw [hx] at hy
  injection hy with hy
  subst hy
  exact ⟨b, off, hA, hc⟩
set_option maxHeartbeats 800000 in
theorem rget_yes (a : RA w base g l room) (k : Nat) (x : Int) (hx : l[k]? = some x) :
    Calls Try.prog 23 #[.pointer (some ⟨g, 0, none⟩), .int .i64 k] w fun e w' => e = .returned (.tuple #[.int .u64 x, .bool true]) ∧ w = w' := by
  have hk : k < l.length := (List.getElem?_eq_some_iff.1 hx).1
  obtain ⟨A, cap, hb, ho⟩ := a.blk
  obtain ⟨b, off, rfl, hc⟩ := ra_cellAt ho hx
  have c0 : w.cell? ⟨g, 0, none⟩ = some (.slice (some ⟨b, off, none⟩) l.length cap) := hb.cell 0
  have d1 : decide ((k : Int) < 0) = false := by simp
  have d2 : decide (l.length ≤ k) = false := by simp; omega
  clear a hb ho hx
  go_enter Try.func23, Try.ntmps23
  go_wp2_with fail
  go_ret2
  exact ⟨rfl, rfl⟩
theorem outside {i : Int} {n : Nat} (h : inside i n = false) : i < 0 ∨ (n : Int) ≤ i := by
  by_cases h0 : i < 0
  · exact .inl h0
  · refine .inr ?_
    by_cases h1 : (n : Int) ≤ i
    · exact h1
    · have : inside i n = true := by unfold inside; simp; omega
      rw [this] at h; cases h
set_option maxHeartbeats 800000 in
theorem rget_no (a : RA w base g l room) (i : Int) (hi : inside i l.length = false) :
    Calls Try.prog 23 #[.pointer (some ⟨g, 0, none⟩), .int .i64 i] w fun e w' => e = .returned (.tuple #[.int .u64 0, .bool false]) ∧ w = w' := by
  obtain ⟨A, cap, hb, ho⟩ := a.blk
  have c0 : w.cell? ⟨g, 0, none⟩ = some (.slice A l.length cap) := hb.cell 0
  have hout := outside hi
  clear a hb ho hi
  by_cases h0 : i < 0
  · have d1 : decide (i < 0) = true := by simpa using h0
    clear hout
    go_enter Try.func23, Try.ntmps23
    go_wp2_with fail
    go_ret2
    exact ⟨rfl, rfl⟩
  · have d1 : decide (i < 0) = false := by simpa using h0
    have d2 : decide ((l.length : Int) ≤ i) = true := by simpa using hout.resolve_left h0
    clear hout
    go_enter Try.func23, Try.ntmps23
    go_wp2_with fail
    go_ret2
    exact ⟨rfl, rfl⟩

/-- What the document's Cut leaves, where it may be. -/
def RCut (w : World) (base g : Nat) (l : List Int) (room n : Nat) (e : Ending) (w' : World) : Prop :=
  e = .returned (.bool true) ∧ RA w' base g (l.take n) room ∧ Keeps w w' [g]
theorem ownAny_cut {base : Nat} {e : TypeId} {n c : Nat} {A : Option Addr} {xs : List Value} (ho : w.ownsRow base e 1 (.slice A n c) n xs) (m : Nat) (hm : m ≤ n) :
    w.ownsRow base e 1 (.slice A m c) m (xs.take m) := by
  rcases ho.2 with ⟨h', h0⟩ | ⟨g, cap, cur, he, _⟩
  · subst h0
    obtain rfl : m = 0 := by omega
    have := ho.1
    obtain ⟨rfl, _, rfl⟩ : A = none ∧ (0 : Nat) = 0 ∧ c = 0 := by simpa using h'
    simpa using World.ownsRow_nil w base e 1
  · obtain ⟨rfl, rfl⟩ : A = some ⟨g, 0, none⟩ ∧ c = cap := by simpa using he
    exact own_cut ho m hm
set_option maxHeartbeats 800000 in
theorem rcut_yes (a : RA w base g l room) (n : Nat) (hn : n ≤ l.length) :
    Calls Try.prog 27 #[.pointer (some ⟨g, 0, none⟩), .int .i64 n] w (RCut w base g l room n) := by
  have HA := Lib.hid a
  obtain ⟨A, cap, hb, ho⟩ := a.blk
  have hm := a.most
  have hfit := a.fits
  have hle : l.length ≤ cap := by
    rcases ho.2 with ⟨h', h0⟩ | ⟨g', cap', cur, h', _, _, hnc, _⟩
    · omega
    · obtain ⟨_, rfl⟩ : A = some ⟨g', 0, none⟩ ∧ cap = cap' := by simpa using h'
      exact hnc
  have hcapm : cap ≤ 9223372036854775807 := by
    rcases ho.2 with ⟨h', h0⟩ | ⟨g', cap', cur, h', _, _, hnc, hx, _⟩
    · obtain ⟨_, _, rfl⟩ : A = none ∧ l.length = 0 ∧ cap = 0 := by simpa using h'
      omega
    · obtain ⟨_, rfl⟩ : A = some ⟨g', 0, none⟩ ∧ cap = cap' := by simpa using h'
      exact hx
  have c0 : w.cell? ⟨g, 0, none⟩ = some (.slice A l.length cap) := hb.cell 0
  have f0 : w.frozen? ⟨g, 0, none⟩ = false := hb.frozen 0
  have HB := Lib.hid hb
  have HO := Lib.hid ho
  have d1 : decide ((n : Int) < 0) = false := by simp
  have d2 : decide (l.length < n) = false := by simp; omega
  clear a hb ho
  go_enter Try.func27, Try.ntmps27
  go_wp2_with fail
  go_ret
  have e : (l.take n).length = n := by rw [List.length_take]; omega
  refine ⟨rfl, ⟨⟨A, cap, ?_, ?_⟩, HA.out.low, by omega, hm, fun x hx => HA.out.bytes x (List.mem_of_mem_take hx)⟩, (Keeps.refl w _).setCell (.inl (by simp)) _⟩
  · rw [e]
    exact HB.out.set_ 0 _
  · rw [e, List.map_take]
    exact own_beside (ownAny_cut HO.out n hn) HB.out (by decide) 0 _
set_option maxHeartbeats 800000 in
theorem rcut_no (a : RA w base g l room) (n : Int) (hn : n < 0 ∨ (l.length : Int) < n) :
    Calls Try.prog 27 #[.pointer (some ⟨g, 0, none⟩), .int .i64 n] w fun e w' => e = .returned (.bool false) ∧ w = w' := by
  obtain ⟨A, cap, hb, ho⟩ := a.blk
  have c0 : w.cell? ⟨g, 0, none⟩ = some (.slice A l.length cap) := hb.cell 0
  clear a hb ho
  by_cases h0 : n < 0
  · have d1 : decide (n < 0) = true := by simpa using h0
    clear hn
    go_enter Try.func27, Try.ntmps27
    go_wp2_with fail
    go_ret
    exact ⟨rfl, rfl⟩
  · have d1 : decide (n < 0) = false := by simpa using h0
    have d2 : decide ((l.length : Int) < n) = true := by simpa using hn.resolve_left h0
    clear hn
    go_enter Try.func27, Try.ntmps27
    go_wp2_with fail
    go_ret
    exact ⟨rfl, rfl⟩
end
end Go.Proofs.Ytanabifmeahfdaa
