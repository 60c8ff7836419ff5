/- Terms: how many parts; few? -/
import Derived.Test.YtnonfmaehfmigaaGreatDoorTmLaw
import Derived.Test.YtnonfmaehfmigaaGreatDoorText
namespace Go.Proofs.YtnonfmaehfmigaaGreatDoor
open Go.RowKit

theorem tSizes_take {l : List Tm} {k : Nat} {a : Tm} (h : l[k]? = some a) : tSizes (l.take (k + 1)) = tSizes (l.take k) + tSize a := by
  rw [List.take_add_one, h]
  exact tSizes_snoc _ _
theorem tSizes_le (l : List Tm) (k : Nat) : tSizes (l.take k) ≤ tSizes l := by
  induction l generalizing k with
  | nil => simp
  | cons a l ih =>
    cases k with
    | zero => simp [tSizes]
    | succ k => rw [List.take_succ_cons, tSizes, tSizes]; have := ih k; omega

set_option maxHeartbeats 800000 in
theorem refSize_any (t : Tm) : ∀ (v : TV) (w : World), Tr w (fun _ => True) t v → tSize t ≤ 9223372036854775807 → Calls Tryz.prog 13 #[tvV v] w fun e w' => e = .returned (.int .i64 (tSize t : Nat)) ∧ Keeps w w' [] := by
  induction t using Tm.ind_ with
  | h k n s l ih =>
    intro v w ht hsz
    cases ht with
    | mk _ _ _ _ A c vs hl hR hS hc hz hk =>
    rw [tSize] at hsz ⊢
    have HT : Hid (Trs w (fun _ => True) l vs) := ⟨hl, hk⟩
    have HR := Lib.hid hR
    have HI := Lib.hid ih
    obtain ⟨m, hm⟩ : ∃ m, l.length = m := ⟨_, rfl⟩
    have HM := Lib.hid hm
    have hmb : m ≤ 9223372036854775807 := by have := tSizes_len l; omega
    have hsum : ∀ j, tSizes (l.take j) ≤ tSizes l := tSizes_le l
    have HS := Lib.hid hsum
    clear hl hR hS hc hz hk ih hsum
    unfold tvV
    simp only [hm]
    clear hm
    have HB0 : Hid (Blk (w.alloc (.cells #[.int .i64 k, .int .i64 n, .string s, .slice A m c] 24)) w.heap.size 24 #[.int .i64 k, .int .i64 n, .string s, .slice A m c]) := Blk.new _ _ _
    have HK0 : Hid (Keeps w (w.alloc (.cells #[.int .i64 k, .int .i64 n, .string s, .slice A m c] 24)) []) := (Keeps.refl w []).alloc _
    go_enter Tryz.func13, Tryz.ntmps13
    go_wp2_with fail
    go_loopw [3, 4] (fun x i wr => ∃ j : Nat, j ≤ m ∧ i = .int .i64 j ∧ x = .int .i64 ((1 + tSizes (l.take j) : Nat) : Int) ∧ Keeps w wr [] ∧ Blk wr w.heap.size 24 #[.int .i64 k, .int .i64 n, .string s, .slice A m c]) (fun _ i _ => m - (intOf i).toNat)
    case atStart => exact ⟨0, Nat.zero_le _, rfl, by simp [tSizes], HK0.out, HB0.out⟩
    case round =>
      obtain ⟨j, hj, rfl, rfl, hkeep, hblk⟩ := hrel
      have HK := Lib.hid hkeep
      have HB := Lib.hid hblk
      have q3 := hblk.cell 3
      clear hkeep hblk HB0 HK0
      by_cases hlt : j < m
      · obtain ⟨a, hx⟩ := at_of HM.out hlt
        have hs1 := HS.out (j + 1)
        rw [tSizes_take hx] at hs1
        have HX := Lib.hid (tSizes_take hx)
        have ha := List.mem_of_getElem? hx
        obtain ⟨v', b, off, _, htr, rfl, hb, p0, p1, p2, p3⟩ := (HT.out.keep HK.out).get (HR.out.keep HK.out) hx
        have hca := HI.out a ha v' _ htr (by omega)
        unfold tvV at hca
        have HC := Lib.hid hca
        clear hca htr hx ha
        have b0 : (0 : Int) ≤ (j : Int) := Int.natCast_nonneg _
        have b1 : (j : Int) < (m : Int) := by omega
        go_wp2_with fail
        refine HC.out.mono ?_
        rintro e w2 ⟨rfl, k2⟩
        go_wp2_with fail
        go_roundw
        case rel => exact ⟨j + 1, by omega, by go_num, by rw [HX.out]; go_num, HK.out.trans k2, HB.out.keep k2 (by simp)⟩
        case measure => simp [intOf]; omega
      · obtain rfl : m = j := by omega
        have hall : tSizes (l.take m) = tSizes l := by rw [← HM.out, List.take_length]
        rw [hall]
        have HA := Lib.hid hall
        clear hlt hj hall
        go_wp2_with fail
        go_ret
        exact ⟨rfl, HK.out⟩

/-! ### Few -/
mutual
def tFew : Tm → Int → Int → Int
  | .mk _ _ s l, d, f => if d ≤ 0 ∨ f - 1 - s.size / 40 < 0 then -1 else tFews l (d - 1) (f - 1 - s.size / 40)
def tFews : List Tm → Int → Int → Int
  | [], _, f => f
  | a :: l, d, f => if tFew a d f < 0 then -1 else tFews l d (tFew a d f)
end
mutual
theorem tFew_size : ∀ (t : Tm) (d f : Int), 0 ≤ tFew t d f → tFew t d f + tSize t ≤ f
  | .mk k n s l, d, f, h => by
    rw [tFew] at h ⊢
    split at h
    · omega
    · rename_i hc
      rw [if_neg hc, tSize]
      have := tFews_size l (d - 1) (f - 1 - s.size / 40) h
      have h0 : (0 : Int) ≤ (s.size : Int) / 40 := by omega
      omega
theorem tFews_size : ∀ (l : List Tm) (d f : Int), 0 ≤ tFews l d f → tFews l d f + tSizes l ≤ f
  | [], d, f, _ => by simp [tFews, tSizes]
  | a :: l, d, f, h => by
    rw [tFews] at h ⊢
    split at h
    · omega
    · rename_i hc
      rw [if_neg hc, tSizes]
      have h1 := tFew_size a d f (by omega)
      have h2 := tFews_size l d _ h
      omega
end
theorem tFews_snoc : ∀ (l : List Tm) (a : Tm) (d f : Int), 0 ≤ tFews l d f → tFews (l ++ [a]) d f = if tFew a d (tFews l d f) < 0 then -1 else tFew a d (tFews l d f)
  | [], a, d, f, _ => by rw [List.nil_append, tFews, tFews, tFews]
  | b :: l, a, d, f, h => by
    rw [tFews] at h
    split at h
    · omega
    · rename_i hc
      rw [List.cons_append, tFews, if_neg hc, tFews, if_neg hc, tFews_snoc l a d _ h]
theorem tFews_stop : ∀ (l m : List Tm) (d f : Int), tFews l d f = -1 → 0 ≤ f → tFews (l ++ m) d f = -1
  | [], m, d, f, h, hf => by simp [tFews] at h; omega
  | a :: l, m, d, f, h, hf => by
    rw [tFews] at h
    rw [List.cons_append, tFews]
    split at h
    · rename_i hc; rw [if_pos hc]
    · rename_i hc; rw [if_neg hc]; exact tFews_stop l m d _ h (by omega)
theorem tFew_ge (t : Tm) (d f : Int) (h : ¬ 0 ≤ tFew t d f) : tFew t d f = -1 := by
  have key : ∀ (l : List Tm) (d f : Int), 0 ≤ f → ¬ 0 ≤ tFews l d f → tFews l d f = -1 := fun l => by
    induction l with
    | nil => intro d f hf h; simp [tFews] at h; omega
    | cons a l ih =>
      intro d f hf h
      rw [tFews] at h ⊢
      split at h
      · rename_i hc; rw [if_pos hc]
      · rename_i hc; rw [if_neg hc]; exact ih d _ (by omega) h
  cases t with
  | mk k n s l =>
    rw [tFew] at h ⊢
    split at h
    · rename_i hc; rw [if_pos hc]
    · rename_i hc; rw [if_neg hc]; exact key l _ _ (by omega) h

end Go.Proofs.YtnonfmaehfmigaaGreatDoor
