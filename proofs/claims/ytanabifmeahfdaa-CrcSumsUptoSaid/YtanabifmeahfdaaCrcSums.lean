/- The walk of resolventlaw07.CrcSums. -/
import Derived.Test.YtanabifmeahfdaaCrcTold
import Derived.Test.YtanabifmeahfdaaAppend
namespace Go.Proofs.Ytanabifmeahfdaa
open Go.RowKit

theorem info_byte : (Try.prog.info? 5).map (fun i => (i.zero, i.size, i.bytes)) = some (some (.int .u8 0), 1, 1) := by kernel_rfl

/-- Some slices of bytes; a nil one has no room. -/
def Whole (w : World) (B : Nat) (A : Option Addr) (ps : List (List Int)) : Prop :=
  ∀ k, k < ps.length → ∃ b off Ak ck l, A = some ⟨b, off, none⟩ ∧ b < B ∧ w.cell? ⟨b, off + k, none⟩ = some (.slice Ak l.length ck) ∧ ps[k]? = some l ∧
    Nums .u8 w B Ak l ∧ IsByte l ∧ l.length ≤ 9223372036854775807 ∧ (Ak = none → ck = 0)
theorem Whole.parts {w : World} {B : Nat} {A : Option Addr} {ps : List (List Int)} (h : Whole w B A ps) : Parts w B A ps := by
  intro k hk
  obtain ⟨b, off, Ak, ck, l, h1, h2, h3, h4, h5, h6, h7, _⟩ := h k hk
  exact ⟨b, off, Ak, ck, l, h1, h2, h3, h4, h5, h6, h7⟩
theorem Whole.keep {w w' : World} {B : Nat} {A : Option Addr} {ps : List (List Int)} (h : Whole w B A ps) (hb : Below B w w') : Whole w' B A ps := by
  intro k hk
  obtain ⟨b, off, Ak, ck, l, h1, h2, h3, h4, h5, h6, h7, h8⟩ := h k hk
  exact ⟨b, off, Ak, ck, l, h1, h2, (hb.cell h2).trans h3, h4, h5.below hb, h6, h7, h8⟩
theorem Whole.take {w : World} {B : Nat} {A : Option Addr} {ps : List (List Int)} (h : Whole w B A ps) (n : Nat) : Whole w B A (ps.take n) := by
  intro k hk
  rw [List.length_take] at hk
  obtain ⟨b, off, Ak, ck, l, h1, h2, h3, h4, h5⟩ := h k (by omega)
  exact ⟨b, off, Ak, ck, l, h1, h2, h3, by rw [List.getElem?_take, if_pos (by omega)]; exact h4, h5⟩

theorem fold_flatten (ps : List (List Int)) : ∀ s, ps.foldl Crc.go s = Crc.go s ps.flatten := by
  induction ps with
  | nil => intro s; rw [List.flatten_nil, Crc.go_nil]; rfl
  | cons l ps ih => intro s; rw [List.foldl_cons, ih, List.flatten_cons, Crc.go_append]
theorem flatten_snoc (ps : List (List Int)) (k : Nat) (l : List Int) (h : ps[k]? = some l) : (ps.take (k + 1)).flatten = (ps.take k).flatten ++ l := by
  rw [getElem?_snoc_take h]
  simp
theorem flatten_take_le (ps : List (List Int)) (k : Nat) : (ps.take k).flatten.length ≤ ps.flatten.length := by
  conv => rhs; rw [← List.take_append_drop k ps]
  rw [List.flatten_append, List.length_append]
  omega
theorem isByte_flatten {w : World} {B : Nat} {A : Option Addr} {ps : List (List Int)} (h : Whole w B A ps) : IsByte ps.flatten := by
  intro x hx
  obtain ⟨l, hl, hxl⟩ := List.mem_flatten.1 hx
  obtain ⟨k, hk, rfl⟩ := List.getElem_of_mem hl
  obtain ⟨_, _, _, _, l', _, _, _, h4, _, h6, _⟩ := h k hk
  rw [List.getElem?_eq_getElem hk] at h4
  injection h4 with h4
  exact h6 x (h4 ▸ hxl)

set_option maxHeartbeats 1600000 in
theorem sums_main (A : Option Addr) (n c : Nat) (ps : List (List Int)) (w : World) (hl : ps.length = n) (hn : n ≤ 9223372036854775807) (hnc : n ≤ c) (hc : c ≤ 9223372036854775807)
    (hA : Whole w w.heap.size A ps) (htot : (ps.take 20).flatten.length ≤ 1048576) :
    Calls Try.prog 3 #[.slice A n c] w fun e w' => e = .returned (.bool true) ∧ Below w.heap.size w w' := by
  obtain ⟨m, hm⟩ : ∃ m, m = min n 20 := ⟨_, rfl⟩
  have hm0 : m ≤ n := by omega
  have hm2 : m ≤ 20 := by omega
  have hm3 : n ≤ 20 → n ≤ m := by omega
  have hm4 : 20 < n → 20 ≤ m := by omega
  obtain ⟨qs, hqs⟩ : ∃ qs, qs = ps.take m := ⟨_, rfl⟩
  have hqs2 : qs = ps.take 20 := by
    rw [hqs]
    rcases Nat.le_total n 20 with h | h
    · rw [List.take_of_length_le (by omega), List.take_of_length_le (by omega)]
    · rw [show m = 20 by omega]
  have HL : Hid (qs.length = m) := by show qs.length = m; rw [hqs, List.length_take]; omega
  have HA : Hid (Whole w w.heap.size A qs) := by show Whole w w.heap.size A qs; rw [hqs]; exact hA.take m
  have HT : Hid (qs.flatten.length ≤ 1048576) := by show _ ≤ _; rw [hqs2]; exact htot
  clear hqs hqs2 hl hA htot hm
  obtain ⟨i0, hi, hz0, hz1, hz2⟩ := info_parts info_byte
  go_enter Try.func3, Try.ntmps3
  go_wp2_with fail
  all_goals
    go_loopw [3, 4, 5] (fun a s i wr => ∃ k : Nat, k ≤ m ∧ i = .int .i64 k ∧ s = .int .u32 (Crc.int ((qs.take k).foldl Crc.go 0#32)) ∧ ∃ A' N c', a = .slice A' N c' ∧ N = (qs.take k).flatten.length ∧
      wr.ownsRow w.heap.size 5 1 (.slice A' N c') N ((qs.take k).flatten.map (Value.int .u8)) ∧ Below w.heap.size w wr) (fun _ _ i _ => m - (intOf i).toNat)
    case atStart => exact ⟨0, Nat.zero_le _, rfl, rfl, none, 0, 0, rfl, rfl, World.ownsRow_nil _ _ _ _, Below.refl _ _⟩
    case round =>
      obtain ⟨k, hk, rfl, rfl, A', N, c', rfl, hN, hown, hb⟩ := hrel
      have HN := Lib.hid hN
      clear hN
      by_cases hlt : k < m
      · obtain ⟨b, off, Ak, ck, l, rfl, hbl, hcell, hx, hnum, hby, hlen, hck⟩ := HA.out k (by rw [HL.out]; exact hlt)
        have HF := Lib.hid (flatten_snoc qs k l hx)
        have HS := Lib.hid (sum_snoc 0#32 qs k l hx)
        have hNl : N + l.length ≤ 1048576 := by
          have := flatten_take_le qs (k + 1)
          rw [HF.out, List.length_append, ← HN.out] at this
          exact Nat.le_trans this HT.out
        have hcell2 := (hb.cell (p := ⟨b, off + k, none⟩) hbl).trans hcell
        have HNum := Lib.hid (hnum.below hb)
        have HBy := Lib.hid hby
        have HCk := Lib.hid hck
        have HO := Lib.hid hown
        have hsz := hb.size
        clear hnum hby hck hx hcell hown
        go_wp2_with (at_builtin; refine wpList_append_row _ rfl (.tmp 17) (.tmp 21) _ rfl w.heap.size 5 i0 _ 1 1 Try.underlying23 hi hz0 hz1 hz2 rfl (by omega) A' N c' ((qs.take k).flatten.map (Value.int .u8)) rfl HO.out w.heap.size Ak l.length ck (l.map (Value.int .u8)) rfl HNum.out.toRow (by rw [List.length_map, Nat.mul_one]) HCk.out (oneCell_ints _ _) (by simp only [maxLen]; omega) (by omega) hsz ?_; intro A2 c2 w1 hown2 hgrow hat; have hrow := HO.out.lt; have hb1 : Below w.heap.size w w1 := hb.grown hgrow hsz (fun q hq => (hrow q hq).1); have hcell3 := (hb1.cell (p := ⟨b, off + k, none⟩) hbl).trans ((hb.cell (p := ⟨b, off + k, none⟩) hbl).symm.trans hcell2); have HN1 := Lib.hid (HNum.out.keep (w' := w1) (fun p hp => (hb1.cell hp).trans (hb.cell hp).symm)); clear hcell2 hgrow hat hrow)
        refine (crcGo_any _ Ak l.length ck l w.heap.size _ rfl hlen HN1.out HBy.out).mono ?_
        rintro e w2 ⟨rfl, rfl⟩
        go_wp2_with fail
        go_roundw
        case rel =>
          refine ⟨k + 1, by omega, by go_num, by rw [HS.out], A2, N + l.length, c2, rfl, by rw [HF.out, List.length_append, HN.out], ?_, hb1⟩
          rw [HF.out, List.map_append]
          exact hown2
        case measure => simp [intOf]; omega
      · obtain rfl : k = m := by omega
        have hqs : qs.take k = qs := List.take_of_length_le (by rw [HL.out]; exact Nat.le_refl _)
        rw [hqs] at hown HN
        rw [hqs]
        obtain ⟨S, hS⟩ : ∃ S, S = Crc.int (Crc.go 0#32 qs.flatten) := ⟨_, rfl⟩
        rw [fold_flatten, ← hS]
        have HS := Lib.hid hS
        have hnums := (Row.of_own hown).toNums
        have HNum := Lib.hid hnums
        have hsz := hb.size
        have hNb : N ≤ 1048576 := by
          have := HT.out
          rw [← HN.out] at this
          exact this
        clear hqs hnums hown hS
        go_wp2_with fail
        refine (crcTold_any _).mono ?_
        rintro e w2 ⟨rfl, hb3⟩
        have hbw := hb.trans (hb3.mono hsz)
        go_wp2_with fail
        refine (crcSum_any _ _ _ qs w.heap.size _ (by rw [HL.out]; omega) (by omega) (HA.out.keep hbw).parts).mono ?_
        rintro e w3 ⟨rfl, rfl⟩
        rw [fold_flatten, ← HS.out]
        go_wp2_with fail
        refine (refSum_any _ N _ qs.flatten _ _ HN.out.symm (by omega) (HNum.out.below hb3) (isByte_flatten HA.out)).mono ?_
        rintro e w3 ⟨rfl, rfl⟩
        rw [← HS.out]
        go_wp2_with fail
        refine (refSum_any _ N _ qs.flatten _ _ HN.out.symm (by omega) (HNum.out.below hb3) (isByte_flatten HA.out)).mono ?_
        rintro e w3 ⟨rfl, rfl⟩
        rw [← HS.out]
        go_wp2_with fail
        go_ret
        exact ⟨rfl, hbw⟩
end Go.Proofs.Ytanabifmeahfdaa
