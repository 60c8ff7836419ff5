/- The document's Set; Same; the law's own Cells. -/
import Derived.Test.YtanabifmeahfdaaAreaR
namespace Go.Proofs.Ytanabifmeahfdaa
open Go.RowKit

section
variable {w : World} {base g : Nat} {l : List Int} {room : Nat}
/-- What the document's Set leaves, where it may be. -/
def RSet (w : World) (base g : Nat) (l : List Int) (room k : Nat) (c : Int) (e : Ending) (w' : World) : Prop :=
  e = .returned (.bool true) ∧ RA w' base g (l.set k c) room ∧ Keeps w w' [g]
/-- What the copy leaves. -/
theorem set_facts {A A1 : Option Addr} {cap k k1 : Nat} {w1 : World} (hb : Blk w g 51 #[.slice A l.length cap, .int .i64 room]) (hg : g < w.heap.size) (hk : k < l.length)
    (hown : w1.ownsRow w.heap.size 30 1 (.slice A1 (0 + l.length) k1) (0 + l.length) ([] ++ l.map (Value.int .u64))) (hgrow : (w.alloc (.cells #[] 30)).grownBy w1 (Value.slice (some ⟨w.heap.size, 0, none⟩) 0 0).ownBlock) :
    ∃ g1, A1 = some ⟨g1, 0, none⟩ ∧ w.heap.size ≤ g1 ∧ g1 ≠ g ∧ w1.cell? ⟨g, 0, none⟩ = some (.slice A l.length cap) ∧ w1.frozen? ⟨g, 0, none⟩ = false ∧ w1.cell? ⟨g1, k, none⟩ = some (.int .u64 (l.getD k 0)) ∧ w1.frozen? ⟨g1, k, none⟩ = false ∧
      Hid (Blk w1 g 51 #[.slice A l.length cap, .int .i64 room]) ∧ Hid (w1.ownsRow w.heap.size 30 1 (.slice (some ⟨g1, 0, none⟩) l.length k1) l.length (l.map (Value.int .u64))) ∧ Hid (Keeps w w1 [g]) := by
  simp only [Nat.zero_add, List.nil_append] at hown
  obtain ⟨g1, cap1, hv1, hg1, hgl1⟩ := hown.form (by omega)
  obtain ⟨rfl, rfl⟩ : A1 = some ⟨g1, 0, none⟩ ∧ k1 = cap1 := by simpa using hv1
  have hb1 : Blk w1 g 51 #[.slice A l.length cap, .int .i64 room] := (hb.alloc (.cells #[] 30)).grown hgrow (fun e => by
    injection e with e
    have e' : g = w.heap.size := e
    omega)
  refine ⟨g1, rfl, hg1, by omega, hb1.cell 0, hb1.frozen 0, (hown.cellAt k (by omega)).trans (by simp [List.getD, List.getElem?_eq_getElem hk]), hown.frozenAt k, hb1, hown, ?_⟩
  exact ((Keeps.refl w [g]).alloc _).grown hgrow (fun k hk => .inr (by
    injection hk with hk
    have e' : w.heap.size = k := hk
    omega))
set_option maxHeartbeats 1600000 in
theorem rset_yes (a : RA w base g l room) (k : Nat) (c : Int) (hk : k < l.length) (hc0 : 0 ≤ c) (hc1 : c < 18446744073709551616) (hr : right c = true) (hbase : base ≤ w.heap.size) :
    Calls Try.prog 26 #[.pointer (some ⟨g, 0, none⟩), .int .i64 k, .int .u64 c] w (RSet w base g l room k c) := by
  obtain ⟨i0, hi, hz0, hz1, hz2⟩ := info_parts info_u64
  have HA := Lib.hid a
  obtain ⟨A, cap, hb, ho⟩ := a.blk
  have hm := a.most
  have hfit := a.fits
  have HR := Lib.hid hr
  have d1 : decide ((k : Int) < 0) = false := by simp
  have d2 : decide (l.length ≤ k) = false := by simp; omega
  have hgW := hb.lt
  have c0 : w.cell? ⟨g, 0, none⟩ = some (.slice A l.length cap) := hb.cell 0
  have c0W : ∀ o, (w.alloc o).cell? ⟨g, 0, none⟩ = some (.slice A l.length cap) := fun o => (World.cell?_alloc_lt w o _ hgW).trans c0
  have HB := Lib.hid hb
  have HRow := Lib.hid (Row.of_own ho)
  have HC : Hid (A = none → cap = 0) := by
    show _ → _
    intro hA
    subst hA
    rcases ho.2 with ⟨h', _⟩ | ⟨g', cap', cur, h', _⟩
    · injection h'
    · simp at h'
  clear a hb ho hr
  go_enter Try.func26, Try.ntmps26
  go_wp2_with fail
  refine (refRight_any c _ hc0 hc1).mono ?_
  rintro e w' ⟨rfl, rfl⟩
  rw [HR.out]
  go_wp2_with (at_builtin; refine wpList_append_row _ rfl (.tmp 24) (.tmp 28) _ rfl w.heap.size 30 i0 _ 1 8 Try.underlying49 hi hz0 hz1 hz2 rfl (by omega) (some ⟨w.heap.size, 0, none⟩) 0 0 [] rfl (World.ownsRow_made _ #[] 0 (Nat.le_refl _) (Nat.zero_le _) rfl) w.heap.size A l.length cap (l.map (Value.int .u64)) rfl (HRow.out.alloc (Nat.le_refl _) _) (by rw [List.length_map, Nat.mul_one]) HC.out (oneCell_ints _ _) (by simp only [maxLen]; omega) (by omega) (by simp) ?_; intro A1 k1 w1 hown1 hgrow1 hat1; obtain ⟨g1, rfl, hgw, hgg, cg, fg, ck, fk, HB1, HO1, HK1⟩ := set_facts HB.out hgW hk hown1 hgrow1; clear hown1 hgrow1 hat1)
  go_ret
  refine ⟨rfl, ⟨⟨some ⟨g1, 0, none⟩, k1, ?_, ?_⟩, HA.out.low, by rw [List.length_set]; omega, hm, ?_⟩, ?_⟩
  · rw [List.length_set]
    exact (HB1.out.set_ 0 _).far (p := ⟨g1, k, none⟩) (fun e => hgg e.symm) _
  · rw [List.length_set, List.map_set]
    exact own_base ((own_beside HO1.out HB1.out (by decide) 0 _).stored k _).1 hbase
  · intro x hx
    rcases List.mem_or_eq_of_mem_set hx with hx | rfl
    · exact HA.out.bytes x hx
    · exact ⟨hc0, hc1⟩
  · exact (HK1.out.setCell (.inl (by simp)) _).setCell (.inr hgw) _
set_option maxHeartbeats 800000 in
theorem rset_no (a : RA w base g l room) (i c : Int) (hc0 : 0 ≤ c) (hc1 : c < 18446744073709551616) (hn : inside i l.length = false ∨ right c = false) :
    Calls Try.prog 26 #[.pointer (some ⟨g, 0, none⟩), .int .i64 i, .int .u64 c] w fun e w' => e = .returned (.bool false) ∧ w = w' := by
  obtain ⟨A, cap, hb, ho⟩ := a.blk
  have c0 : w.cell? ⟨g, 0, none⟩ = some (.slice A l.length cap) := hb.cell 0
  clear a hb ho
  by_cases hi : inside i l.length = true
  · have HR : Hid (right c = false) := hn.resolve_left (by rw [hi]; simp)
    obtain ⟨k, rfl, hk⟩ := inside_iff.1 hi
    have d1 : decide ((k : Int) < 0) = false := by simp
    have d2 : decide (l.length ≤ k) = false := by simp; omega
    clear hi hn
    go_enter Try.func26, Try.ntmps26
    go_wp2_with fail
    refine (refRight_any c _ hc0 hc1).mono ?_
    rintro e w' ⟨rfl, rfl⟩
    rw [HR.out]
    go_wp2_with fail
    go_ret
    exact ⟨rfl, rfl⟩
  · have hout := outside (i := i) (n := l.length) (by simpa using hi)
    clear hi hn
    by_cases h0 : i < 0
    · have d1 : decide (i < 0) = true := by simpa using h0
      clear hout
      go_enter Try.func26, Try.ntmps26
      go_wp2_with fail
      go_ret
      exact ⟨rfl, rfl⟩
    · have d1 : decide (i < 0) = false := by simpa using h0
      have d2 : decide ((l.length : Int) ≤ i) = true := by simpa using hout.resolve_left h0
      clear hout
      go_enter Try.func26, Try.ntmps26
      go_wp2_with fail
      go_ret
      exact ⟨rfl, rfl⟩
end

/-! ### Same, of two rows of the same numbers -/
set_option maxHeartbeats 1600000 in
theorem same_eq (A B : Option Addr) (n c d : Nat) (l : List Int) (b1 b2 : Nat) (w : World) (hl : l.length = n) (hn : n ≤ 65536) (hA : Nums .u64 w b1 A l) (hB : Nums .u64 w b2 B l) :
    Calls Try.prog 28 #[.slice A n c, .slice B n d] w fun e w' => e = .returned (.bool true) ∧ ∃ k, w' = w.drewN k := by
  have HL := Lib.hid hl
  have HA := Lib.hid hA
  have HB := Lib.hid hB
  clear hl hA hB
  go_enter Try.func28, Try.ntmps28
  go_wp2_with fail
  go_loopw [5] (fun i wr => ∃ k : Nat, k ≤ n ∧ i = .int .i64 k ∧ ∃ q, wr = w.drewN q) (fun i _ => n - (intOf i).toNat)
  case atStart => exact ⟨0, Nat.zero_le _, rfl, 0, rfl⟩
  case round =>
    obtain ⟨k, hk, rfl, q, rfl⟩ := hrel
    by_cases hlt : k < n
    · obtain ⟨ba, oa, x, rfl, _, ca, hx⟩ := HA.out k (by rw [HL.out]; exact hlt)
      obtain ⟨bb, ob, y, rfl, _, cb, hy⟩ := HB.out k (by rw [HL.out]; exact hlt)
      rw [hx] at hy
      obtain rfl : x = y := by injection hy
      have b1 : (0 : Int) ≤ k := by omega
      have b2 : (k : Int) < n := by omega
      clear hx hy
      go_wp2_with fail
      go_quiet (fail)
      go_wp2_with fail
      go_roundw
      case rel => exact ⟨k + 1, by omega, by go_num, _, rfl⟩
      case measure => simp [intOf]; omega
    · obtain rfl : k = n := by omega
      go_wp2_with fail
      go_ret
      exact ⟨rfl, _, rfl⟩

/-! ### The law's Cells -/
set_option maxHeartbeats 1600000 in
theorem lawCells_any (A : Option Addr) (n c : Nat) (l : List Int) (b1 : Nat) (w : World) (hl : l.length = n) (hn : n ≤ 65536) (hA : Nums .u64 w b1 A l) (hb : b1 ≤ w.heap.size) :
    Calls Try.prog 29 #[.slice A n c] w (Copied w 30 l) := by
  obtain ⟨i0, hi, hz0, hz1, hz2⟩ := info_parts info_u64
  have HL := Lib.hid hl
  have HA := Lib.hid (hA.more hb)
  clear hl hA
  go_enter Try.func29, Try.ntmps29
  go_wp2_with fail
  go_loopw [3, 4] (fun a i wr => ∃ k : Nat, k ≤ n ∧ i = .int .i64 k ∧ ∃ A' c', a = .slice A' k c' ∧ wr.ownsRow w.heap.size 30 1 (.slice A' k c') k ((l.take k).map (Value.int .u64)) ∧ Below w.heap.size w wr) (fun _ i _ => n - (intOf i).toNat)
  case atStart => exact ⟨0, Nat.zero_le _, rfl, none, 0, rfl, World.ownsRow_nil _ _ _ _, Below.refl _ _⟩
  case round =>
    obtain ⟨k, hk, rfl, A', c', rfl, hown, hbel⟩ := hrel
    by_cases hlt : k < n
    · obtain ⟨ba, oa, x, rfl, hba, ca, hx⟩ := HA.out k (by rw [HL.out]; exact hlt)
      have ca2 : wr.cell? ⟨ba, oa + k, none⟩ = some (.int .u64 x) := (hbel.cell (p := ⟨ba, oa + k, none⟩) hba).trans ca
      have HF := Lib.hid (getElem?_snoc_take hx)
      have HO := Lib.hid hown
      have HBel := Lib.hid hbel
      have hsz := hbel.size
      clear hx hown ca hbel
      go_wp2_with (at_builtin; refine wpList_append_row _ rfl (.tmp 11) (.tmp 16) _ rfl w.heap.size 30 i0 _ 1 8 Try.underlying49 hi hz0 hz1 hz2 rfl (by omega) A' k c' ((l.take k).map (Value.int .u64)) rfl (HO.out.alloc _) (wr.heap.size + 1) (some ⟨wr.heap.size, 0, none⟩) 1 1 [.int .u64 x] rfl (Nums.lit (K := .u64) wr 30 (0, 0) [x] rfl).toRow rfl (fun hh => by cases hh) (by intro u hu; simp at hu; subst hu; rfl) (by simp only [maxLen]; omega) (by omega) (by simp; omega) ?_; intro A2 k2 w1 hown2 hgrow2 hat2; have hb2 := (HBel.out.alloc hsz _).grown hgrow2 (by simp; omega) (fun q hq => (HO.out.lt q hq).1); clear hgrow2 hat2)
      go_roundw
      case rel =>
        refine ⟨k + 1, by omega, by go_num, A2, k2, rfl, ?_, hb2⟩
        rw [HF.out, List.map_append]
        exact hown2
      case measure => simp [intOf]; omega
    · obtain rfl : k = n := by omega
      have HO := Lib.hid hown
      clear hown
      go_wp2_with fail
      go_ret
      refine ⟨A', c', by rw [HL.out]; rfl, ?_, hbel⟩
      have := HO.out
      rw [List.take_of_length_le (by rw [HL.out]; exact Nat.le_refl _)] at this
      rw [HL.out]
      exact this
end Go.Proofs.Ytanabifmeahfdaa
