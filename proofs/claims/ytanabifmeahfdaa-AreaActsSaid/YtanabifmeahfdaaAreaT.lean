/- The Area's calls, each with one answer for every argument; the same for the document's. -/
import Derived.Test.YtanabifmeahfdaaAreaS
namespace Go.Proofs.Ytanabifmeahfdaa
open Go.RowKit
variable {w : World} {base g h : Nat} {l : List Int} {room : Nat}

def pushOk (l : List Int) (n : Nat) (c : Int) : Bool := decide (l.length < n) && right c
def pushTo (l : List Int) (n : Nat) (c : Int) : List Int := if pushOk l n c then l ++ [c] else l
def setOk (l : List Int) (i c : Int) : Bool := inside i l.length && right c
def setTo (l : List Int) (i c : Int) : List Int := if setOk l i c then l.set i.toNat c else l
def cutOk (l : List Int) (i : Int) : Bool := decide (0 ≤ i) && decide (i ≤ l.length)
def cutTo (l : List Int) (i : Int) : List Int := if cutOk l i then l.take i.toNat else l
def getAt (l : List Int) (i : Int) : Int := if inside i l.length then l.getD i.toNat 0 else 0

def DidA (w : World) (base g h : Nat) (l : List Int) (room : Nat) (r : Value) (e : Ending) (w' : World) : Prop :=
  e = .returned r ∧ Ar w' base g h l room ∧ Keeps w w' [g, h]
def DidR (w : World) (base g : Nat) (l : List Int) (room : Nat) (r : Value) (e : Ending) (w' : World) : Prop :=
  e = .returned r ∧ RA w' base g l room ∧ Keeps w w' [g]

theorem push_all (a : Ar w base g h l room) (c : Int) (hc0 : 0 ≤ c) (hc1 : c < 18446744073709551616) :
    Calls Try.prog 16 #[.pointer (some ⟨g, 0, none⟩), .int .u64 c] w (DidA w base g h (pushTo l room c) room (.bool (pushOk l room c))) := by
  have hf := a.fits
  cases hk : pushOk l room c with
  | true =>
    rw [pushTo, if_pos hk]
    simp only [pushOk, Bool.and_eq_true, decide_eq_true_eq] at hk
    exact push_yes a c hc0 hc1 hk.2 hk.1
  | false =>
    rw [pushTo, if_neg (by rw [hk]; simp)]
    refine (push_no a c hc0 hc1 ?_).mono ?_
    · simp only [pushOk, Bool.and_eq_false_iff, decide_eq_false_iff_not] at hk
      rcases hk with hk | hk
      · exact .inl (by omega)
      · exact .inr hk
    · rintro e w' ⟨rfl, rfl⟩
      exact ⟨rfl, a.drew, (Keeps.refl w _).drew⟩
theorem set_all (a : Ar w base g h l room) (i c : Int) (hc0 : 0 ≤ c) (hc1 : c < 18446744073709551616) :
    Calls Try.prog 17 #[.pointer (some ⟨g, 0, none⟩), .int .i64 i, .int .u64 c] w (DidA w base g h (setTo l i c) room (.bool (setOk l i c))) := by
  cases hk : setOk l i c with
  | true =>
    rw [setTo, if_pos hk]
    simp only [setOk, Bool.and_eq_true] at hk
    obtain ⟨k, rfl, hlt⟩ := inside_iff.1 hk.1
    exact set_yes a k c hlt hc0 hc1 hk.2
  | false =>
    rw [setTo, if_neg (by rw [hk]; simp)]
    refine (set_no a i c hc0 hc1 ?_).mono ?_
    · simpa only [setOk, Bool.and_eq_false_iff] using hk
    · rintro e w' ⟨rfl, rfl⟩
      exact ⟨rfl, a, Keeps.refl w _⟩
theorem cut_all (a : Ar w base g h l room) (i : Int) :
    Calls Try.prog 18 #[.pointer (some ⟨g, 0, none⟩), .int .i64 i] w (DidA w base g h (cutTo l i) room (.bool (cutOk l i))) := by
  cases hk : cutOk l i with
  | true =>
    rw [cutTo, if_pos hk]
    simp only [cutOk, Bool.and_eq_true, decide_eq_true_eq] at hk
    obtain ⟨k, rfl⟩ := Int.eq_ofNat_of_zero_le hk.1
    exact cut_yes a k (by omega)
  | false =>
    rw [cutTo, if_neg (by rw [hk]; simp)]
    refine (cut_no a i ?_).mono ?_
    · simp only [cutOk, Bool.and_eq_false_iff, decide_eq_false_iff_not] at hk
      omega
    · rintro e w' ⟨rfl, rfl⟩
      exact ⟨rfl, a, Keeps.refl w _⟩
theorem get_all (a : Ar w base g h l room) (i : Int) :
    Calls Try.prog 12 #[.pointer (some ⟨g, 0, none⟩), .int .i64 i] w fun e w' => e = .returned (.tuple #[.int .u64 (getAt l i), .bool (inside i l.length)]) ∧ w = w' := by
  cases hk : inside i l.length with
  | true =>
    obtain ⟨k, rfl, hlt⟩ := inside_iff.1 hk
    refine (get_yes a k _ (List.getElem?_eq_getElem hlt)).mono ?_
    rintro e w' ⟨rfl, rfl⟩
    refine ⟨?_, rfl⟩
    rw [getAt, if_pos hk]
    simp [List.getD, List.getElem?_eq_getElem hlt]
  | false =>
    refine (get_no a i hk).mono ?_
    rintro e w' ⟨rfl, rfl⟩
    refine ⟨?_, rfl⟩
    rw [getAt, if_neg (by rw [hk]; simp)]
theorem at_all (a : Ar w base g h l room) (i : Int) (hk : inside i l.length = true) :
    Calls Try.prog 24 #[.agg #[.pointer (some ⟨g, 0, none⟩)], .int .i64 i] w fun e w' => e = .returned (.int .u64 (getAt l i)) ∧ Keeps w w' [] := by
  obtain ⟨k, rfl, hlt⟩ := inside_iff.1 hk
  refine (at_yes a k _ (List.getElem?_eq_getElem hlt)).mono ?_
  rintro e w' ⟨rfl, rfl⟩
  refine ⟨?_, (Keeps.refl w []).alloc _⟩
  rw [getAt, if_pos hk]
  simp [List.getD, List.getElem?_eq_getElem hlt]
theorem put_all (a : Ar w base g h l room) (i c : Int) (hk : setOk l i c = true) (hc0 : 0 ≤ c) (hc1 : c < 18446744073709551616) :
    Calls Try.prog 25 #[.agg #[.pointer (some ⟨g, 0, none⟩)], .int .i64 i, .int .u64 c] w (DidA w base g h (setTo l i c) room (.tuple #[])) := by
  rw [setTo, if_pos hk]
  simp only [setOk, Bool.and_eq_true] at hk
  obtain ⟨k, rfl, hlt⟩ := inside_iff.1 hk.1
  exact put_yes a k c hlt hc0 hc1
theorem add_all (a : Ar w base g h l room) (c : Int) (hk : pushOk l room c = true) (hc0 : 0 ≤ c) (hc1 : c < 18446744073709551616) :
    Calls Try.prog 21 #[.agg #[.pointer (some ⟨g, 0, none⟩)], .int .u64 c] w (DidA w base g h (pushTo l room c) room (.int .i64 l.length)) := by
  rw [pushTo, if_pos hk]
  simp only [pushOk, Bool.and_eq_true, decide_eq_true_eq] at hk
  exact add_yes a c hc0 hc1 hk.1

theorem rset_all (a : RA w base g l room) (i c : Int) (hc0 : 0 ≤ c) (hc1 : c < 18446744073709551616) (hbase : base ≤ w.heap.size) :
    Calls Try.prog 26 #[.pointer (some ⟨g, 0, none⟩), .int .i64 i, .int .u64 c] w (DidR w base g (setTo l i c) room (.bool (setOk l i c))) := by
  cases hk : setOk l i c with
  | true =>
    rw [setTo, if_pos hk]
    simp only [setOk, Bool.and_eq_true] at hk
    obtain ⟨k, rfl, hlt⟩ := inside_iff.1 hk.1
    exact rset_yes a k c hlt hc0 hc1 hk.2 hbase
  | false =>
    rw [setTo, if_neg (by rw [hk]; simp)]
    refine (rset_no a i c hc0 hc1 ?_).mono ?_
    · simpa only [setOk, Bool.and_eq_false_iff] using hk
    · rintro e w' ⟨rfl, rfl⟩
      exact ⟨rfl, a, Keeps.refl w _⟩
theorem rcut_all (a : RA w base g l room) (i : Int) :
    Calls Try.prog 27 #[.pointer (some ⟨g, 0, none⟩), .int .i64 i] w (DidR w base g (cutTo l i) room (.bool (cutOk l i))) := by
  cases hk : cutOk l i with
  | true =>
    rw [cutTo, if_pos hk]
    simp only [cutOk, Bool.and_eq_true, decide_eq_true_eq] at hk
    obtain ⟨k, rfl⟩ := Int.eq_ofNat_of_zero_le hk.1
    exact rcut_yes a k (by omega)
  | false =>
    rw [cutTo, if_neg (by rw [hk]; simp)]
    refine (rcut_no a i ?_).mono ?_
    · simp only [cutOk, Bool.and_eq_false_iff, decide_eq_false_iff_not] at hk
      omega
    · rintro e w' ⟨rfl, rfl⟩
      exact ⟨rfl, a, Keeps.refl w _⟩
theorem rget_all (a : RA w base g l room) (i : Int) :
    Calls Try.prog 23 #[.pointer (some ⟨g, 0, none⟩), .int .i64 i] w fun e w' => e = .returned (.tuple #[.int .u64 (getAt l i), .bool (inside i l.length)]) ∧ w = w' := by
  cases hk : inside i l.length with
  | true =>
    obtain ⟨k, rfl, hlt⟩ := inside_iff.1 hk
    refine (rget_yes a k _ (List.getElem?_eq_getElem hlt)).mono ?_
    rintro e w' ⟨rfl, rfl⟩
    refine ⟨?_, rfl⟩
    rw [getAt, if_pos hk]
    simp [List.getD, List.getElem?_eq_getElem hlt]
  | false =>
    refine (rget_no a i hk).mono ?_
    rintro e w' ⟨rfl, rfl⟩
    refine ⟨?_, rfl⟩
    rw [getAt, if_neg (by rw [hk]; simp)]
theorem rpush_all (a : RA w base g l room) (c : Int) (hc0 : 0 ≤ c) (hc1 : c < 18446744073709551616) (hbase : base ≤ w.heap.size) :
    Calls Try.prog 22 #[.pointer (some ⟨g, 0, none⟩), .int .u64 c] w (DidR w base g (pushTo l room c) room (.bool (pushOk l room c))) := by
  have hf := a.fits
  cases hk : pushOk l room c with
  | true =>
    rw [pushTo, if_pos hk]
    simp only [pushOk, Bool.and_eq_true, decide_eq_true_eq] at hk
    exact rpush_yes a c hc0 hc1 hk.2 hk.1 hbase
  | false =>
    rw [pushTo, if_neg (by rw [hk]; simp)]
    refine (rpush_no a c hc0 hc1 ?_).mono ?_
    · simp only [pushOk, Bool.and_eq_false_iff, decide_eq_false_iff_not] at hk
      rcases hk with hk | hk
      · exact .inl (by omega)
      · exact .inr hk
    · rintro e w' ⟨rfl, q, rfl⟩
      exact ⟨rfl, a.keep0 (Keeps.drewN (Keeps.refl w []) q), (Keeps.refl w _).drewN q⟩
end Go.Proofs.Ytanabifmeahfdaa
