/- The document's num and name: a number, a name behind bytes. -/
import Derived.Test.YtdcjiohbnnipdaaPut
namespace Go.Proofs.Ytdcjiohbnnipdaa
open Go.RowKit

def NumDone (w : World) (n : Nat) (l more : List Int) (e : Ending) (w' : World) : Prop :=
  ∃ A' c', e = .returned (.slice A' (n + more.length) c') ∧ w'.ownsRow w.heap.size 5 1 (.slice A' (n + more.length) c') (n + more.length) (u8s (l ++ more)) ∧ Keeps w w' []
theorem own_none0 {w : World} {base n c size : Nat} {e : TypeId} {A : Option Addr} {xs : List Value} (h : w.ownsRow base e size (.slice A n c) n xs) (hA : A = none) : c = 0 := by
  subst hA
  rcases h.2 with ⟨h2, _⟩ | ⟨g2, cap, cur, he, _⟩
  · injection h2
  · injection he with he; cases he

theorem numDone_mk {w w1 w2 w3 : World} {n m : Nat} {l ma : List Int} {A1 A2 : Option Addr} {c1 c2 : Nat} {x : Int} (k1 : Keeps w w1 []) (hm : ma.length = m)
    (hown : w3.ownsRow w.heap.size 5 1 (.slice A2 (n + m + 1) c2) (n + m + 1) (u8s (l ++ ma) ++ [.int .u8 x])) (ho : w2.ownsRow w.heap.size 5 1 (.slice A1 (n + m) c1) (n + m) (u8s (l ++ ma))) (k2 : Keeps w1 w2 []) (hg : w2.grownBy w3 (Value.slice A1 (n + m) c1).ownBlock) :
    NumDone w n l (ma ++ [x]) (.returned (.slice A2 (n + m + 1) c2)) w3 := by
  refine ⟨A2, c2, by rw [List.length_append, hm]; rfl, ?_, (k1.trans k2).app ho (Nat.le_refl _) hg⟩
  rw [List.length_append, hm, ← List.append_assoc, u8s_app]
  exact hown
set_option maxRecDepth 100000 in
set_option maxHeartbeats 800000 in
theorem num_any (k : Nat) : ∀ (A : Option Addr) (n c v : Nat) (vi z : Int) (l : List Int) (w : World), k ≤ 3 → z = k + 1 → vi = v → v ≤ 1099511627776 → l.length = n → n ≤ 1099511627 → Rd w A (u8s l) → (A = none → c = 0) →
    Calls Try.prog 58 #[.slice A n c, .int .i64 vi, .int .i64 z] w (NumDone w n l (be (k + 1) v)) := by
  induction k with
  | zero =>
    intro A n c v vi z l w _ hz hvi hv hl hn hA hc
    obtain rfl : z = 1 := by omega
    subst hvi
    have HA := Lib.hid hA
    have HC := Lib.hid hc
    have HL := Lib.hid hl
    clear hA hc hl hz
    have HX := Lib.hid (show (v : Int) % 256 = ((v % 256 : Nat) : Int) from (Int.natCast_emod v 256).symm)
    go_enter Try.func58, Try.ntmps58
    go_wp2_with (first
      | (at_builtin; refine wpList_app _ el_u8 rfl (.tmp 8) (.tmp 9) rfl w.heap.size (some ⟨w.heap.size, 0, none⟩) 0 0 [] rfl (own_empty _ _) A n c (u8s l) rfl (HA.out.alloc _) (by rw [u8s_len, HL.out, Nat.mul_one]) HC.out (u8s_one _) (by omega) (by simp) ?_; intro A1 c1 w1 hown hgrow hat; simp only [Nat.zero_add, List.nil_append] at hown hat; have HO := Lib.hid hown; have k1 : Keeps w w1 [] := ((Keeps.refl w []).alloc _).grown hgrow (fun q hq => .inr (by simp [Value.ownBlock] at hq; omega)); have hsz := k1.size; clear hown hgrow hat)
      | (at_builtin; refine wpList_app _ el_u8 rfl (.tmp 19) (.tmp 23) rfl w.heap.size A1 n c1 (u8s l) rfl (HO.out.alloc _) (some ⟨w1.heap.size, 0, none⟩) 1 1 [.int .u8 ((v : Int) % 256)] rfl (Rd.one w1 _ [.int .u8 ((v : Int) % 256)]) rfl (by simp) (by simp [Value.oneCell']) (by omega) (by simp; omega) ?_; intro A2 c2 w2 hown hgrow hat))
    go_ret
    rw [HX.out] at hown
    exact numDone_mk (ma := []) (m := 0) k1 rfl (by simpa using hown) (by simpa using HO.out.alloc _) ((Keeps.refl w1 []).alloc _) hgrow
  | succ k ih =>
    intro A n c v vi z l w hk hz hvi hv hl hn hA hc
    subst hvi
    have IH := Lib.hid ih
    have HA := Lib.hid hA
    have HC := Lib.hid hc
    have HL := Lib.hid hl
    have HZ := Lib.hid hz
    have z1 : decide (1 < z) = true := by simp only [decide_eq_true_eq]; omega
    have z2 : 2 ≤ z := by omega
    have z3 : z ≤ 4 := by omega
    clear hA hc hl hz ih
    have HX := Lib.hid (show (v : Int) % 256 = ((v % 256 : Nat) : Int) from (Int.natCast_emod v 256).symm)
    have HD := Lib.hid (show (v : Int) / 256 = ((v / 256 : Nat) : Int) from (Int.natCast_ediv v 256).symm)
    go_enter Try.func58, Try.ntmps58
    go_wp2_with (first
      | (at_builtin; refine wpList_app _ el_u8 rfl (.tmp 8) (.tmp 9) rfl w.heap.size (some ⟨w.heap.size, 0, none⟩) 0 0 [] rfl (own_empty _ _) A n c (u8s l) rfl (HA.out.alloc _) (by rw [u8s_len, HL.out, Nat.mul_one]) HC.out (u8s_one _) (by omega) (by simp) ?_; intro A1 c1 w1 hown hgrow hat; simp only [Nat.zero_add, List.nil_append] at hown hat; have HO := Lib.hid hown; have k1 : Keeps w w1 [] := ((Keeps.refl w []).alloc _).grown hgrow (fun q hq => .inr (by simp [Value.ownBlock] at hq; omega)); have hsz := k1.size; clear hown hgrow hat))
    refine (IH.out A1 n c1 (v / 256) ((v : Int) / 256) (z - 1) l w1 (by omega) (by have := HZ.out; omega) HD.out (by omega) HL.out hn (Rd.of_own HO.out) (own_none0 HO.out)).mono ?_
    rintro e w2 ⟨A2, c2, rfl, ho2, k2⟩
    have hbl := be_len (k + 1) (v / 256)
    rw [hbl] at ho2 ⊢
    have HO2 := Lib.hid (own_base ho2 hsz)
    have hsz2 := k2.size
    clear ho2 hbl
    go_wp2_with (at_builtin; refine wpList_app _ el_u8 rfl (.tmp 19) (.tmp 23) rfl w.heap.size A2 (n + (k + 1)) c2 (u8s (l ++ be (k + 1) (v / 256))) rfl (HO2.out.alloc _) (some ⟨w2.heap.size, 0, none⟩) 1 1 [.int .u8 ((v : Int) % 256)] rfl (Rd.one w2 _ [.int .u8 ((v : Int) % 256)]) rfl (by simp) (by simp [Value.oneCell']) (by omega) (by simp; omega) ?_; intro A3 c3 w3 hown hgrow hat)
    go_ret
    rw [HX.out] at hown
    exact numDone_mk k1 (be_len _ _) hown (HO2.out.alloc _) (k2.alloc _) hgrow

def NameDone (w : World) (n : Nat) (l more : List Int) (e : Ending) (w' : World) : Prop := NumDone w n l more e w'
set_option maxRecDepth 100000 in
set_option maxHeartbeats 800000 in
theorem refPutName_any (A : Option Addr) (n c : Nat) (s : ByteArray) (l : List Int) (w : World) (hl : l.length = n) (hn : n ≤ 1099511626) (hs : s.size ≤ 65536) (hA : Rd w A (u8s l)) (hc : A = none → c = 0) :
    Calls Try.prog 59 #[.slice A n c, .string s] w (NumDone w n l (nameB s)) := by
  have HA := Lib.hid hA
  have HC := Lib.hid hc
  have HL := Lib.hid hl
  clear hA hc hl
  go_enter Try.func59, Try.ntmps59
  go_wp2_with fail
  refine (num_any 0 A n c s.size s.size 1 l w (by omega) rfl rfl (by omega) HL.out (by omega) HA.out HC.out).mono ?_
  rintro e w1 ⟨A1, c1, rfl, ho1, k1⟩
  have hbl := be_len 1 s.size
  simp only [Nat.zero_add] at ho1 ⊢
  rw [hbl] at ho1 ⊢
  have HO := Lib.hid ho1
  have hsz := k1.size
  clear ho1 hbl
  go_wp2_with (at_builtin; refine wpList_app_str _ rfl _ _ _ _ rfl w.heap.size 5 Try.underlying22 Try.underlying9 info_u8 A1 (n + 1) c1 (u8s (l ++ be 1 s.size)) rfl HO.out (by omega) s rfl (by omega) (by omega) ?_; intro A2 c2 w2 hown hgrow hat)
  go_ret
  refine ⟨A2, c2, by rw [nameB_len, ← Nat.add_assoc]; rfl, ?_, k1.app HO.out (Nat.le_refl _) hgrow⟩
  rw [nameB_len, ← Nat.add_assoc, nameB, ← List.append_assoc, u8s_app, ← strCells_eq]
  exact hown
end Go.Proofs.Ytdcjiohbnnipdaa
