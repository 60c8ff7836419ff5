/- Instructions in words: the document's Words. -/
import Derived.Test.YtpcihhdalofdiaaGreatDoorTxtI
namespace Go.Proofs.YtpcihhdalofdiaaGreatDoor
open Go.RowKit

theorem split_blank : ∀ p : Txt, splitT (p ++ [32]) = splitT p ++ [[]]
  | [] => rfl
  | c :: p => by
    have ih := split_blank p
    rw [List.cons_append, splitT, splitT, ih]
    by_cases hc : c = 32
    · rw [if_pos hc, if_pos hc]; rfl
    · rw [if_neg hc, if_neg hc]
      cases hp : splitT p with
      | nil => exact absurd hp (splitT_ne p)
      | cons x r => rfl
theorem split_more {c : UInt8} (hc : c ≠ 32) : ∀ (p : Txt) (d : List Txt) (w : Txt), splitT p = d ++ [w] → splitT (p ++ [c]) = d ++ [w ++ [c]]
  | [], d, w, h => by
    have h1 : d = [] ∧ w = [] := by
      rw [splitT] at h
      cases d with
      | nil => simpa using h.symm
      | cons x r => simp at h
    obtain ⟨rfl, rfl⟩ := h1
    rw [List.nil_append, splitT, if_neg hc]
    rfl
  | b :: p, d, w, h => by
    rw [List.cons_append, splitT]
    rw [splitT] at h
    by_cases hb : b = 32
    · rw [if_pos hb] at h ⊢
      cases d with
      | nil => simp at h; exact absurd h.2 (splitT_ne p)
      | cons x r =>
        rw [List.cons_append] at h
        injection h with h1 h2
        rw [split_more hc p r w h2, ← h1]
        rfl
    · rw [if_neg hb] at h ⊢
      cases hp : splitT p with
      | nil => exact absurd hp (splitT_ne p)
      | cons x r =>
        rw [hp] at h
        cases d with
        | nil =>
          rw [List.nil_append] at h
          injection h with h1 h2
          subst h2
          have := split_more hc p [] x (by rw [hp]; rfl)
          rw [this]
          simp only [List.nil_append]
          rw [← h1]
          rfl
        | cons y t =>
          rw [List.cons_append] at h
          injection h with h1 h2
          have := split_more hc p (x :: t) w (by rw [hp, h2]; rfl)
          rw [this]
          simp only [List.cons_append]
          rw [← h1]
/-- What the document's loop knows behind i bytes. -/
def Cut (l : Txt) (i f : Nat) (done : List Txt) : Prop :=
  i ≤ l.length + 1 ∧ f ≤ i ∧ (i ≤ l.length → splitT (l.take i) = done ++ [(l.take i).drop f]) ∧ (i = l.length + 1 → done = splitT l)
theorem Cut.zero (l : Txt) : Cut l 0 0 [] := ⟨by omega, by omega, fun _ => rfl, fun h => absurd h (by omega)⟩
theorem Cut.blank {l : Txt} {i f : Nat} {done : List Txt} (h : Cut l i f done) (hi : l[i]? = some 32) : Cut l (i + 1) (i + 1) (done ++ [(l.take i).drop f]) := by
  obtain ⟨h1, h2, h3, h4⟩ := h
  have hlt := (List.getElem?_eq_some_iff.1 hi).1
  refine ⟨by omega, by omega, fun _ => ?_, fun h => absurd h (by omega)⟩
  rw [List.take_add_one, hi]
  show splitT (l.take i ++ [32]) = _
  rw [split_blank, h3 (by omega)]
  have : (l.take i ++ (some (32 : UInt8)).toList).drop (i + 1) = [] := by
    rw [List.drop_eq_nil_of_le]
    simp
    omega
  rw [this]
theorem Cut.more {l : Txt} {i f : Nat} {done : List Txt} {c : UInt8} (h : Cut l i f done) (hi : l[i]? = some c) (hc : c ≠ 32) : Cut l (i + 1) f done := by
  obtain ⟨h1, h2, h3, h4⟩ := h
  have hlt := (List.getElem?_eq_some_iff.1 hi).1
  refine ⟨by omega, by omega, fun _ => ?_, fun h => absurd h (by omega)⟩
  rw [List.take_add_one, hi]
  show splitT (l.take i ++ [c]) = done ++ [(l.take i ++ [c]).drop f]
  rw [split_more hc _ _ _ (h3 (by omega)), List.drop_append_of_le_length (by rw [List.length_take]; omega)]
theorem Cut.last {l : Txt} {f : Nat} {done : List Txt} (h : Cut l l.length f done) : Cut l (l.length + 1) (l.length + 1) (done ++ [(l.take l.length).drop f]) := by
  obtain ⟨h1, h2, h3, h4⟩ := h
  refine ⟨by omega, by omega, fun h => absurd h (by omega), fun _ => ?_⟩
  rw [← h3 (by omega), List.take_of_length_le (Nat.le_refl _)]
theorem piece_is (s : ByteArray) (f i : Nat) : s.extract f i = stB ((s.data.toList.take i).drop f) := by
  have h : (s.extract f i).data.toList = (s.data.toList.take i).drop f := by rw [Lib.extract_data, List.drop_take]
  rw [← h, stB_of]
theorem split_num (l : Txt) : (splitT l).length ≤ l.length + 1 := by
  induction l with
  | nil => simp [splitT]
  | cons c l ih =>
    rw [splitT]
    split
    · simp; exact ih
    · split
      · simp
      · next h => rw [h] at ih; simp at ih ⊢; omega
/-- A row of texts, of the call's own. -/
def WordsMade (w : World) (ws : List Txt) (e : Ending) (w' : World) : Prop :=
  ∃ A c, e = .returned (.slice A ws.length c) ∧ w'.ownsRow w.heap.size 9 1 (.slice A ws.length c) ws.length (ws.map fun x => Value.string (stB x)) ∧ Keeps w w' []
set_option maxHeartbeats 3200000 in
theorem refWords_any (s : ByteArray) (hs : s.size ≤ 4294967280) (w : World) : Calls Tryz.prog 52 #[.string s] w (WordsMade w (splitT s.data.toList)) := by
  have hsz : s.data.toList.length = s.size := rfl
  go_enter Tryz.func52, Tryz.ntmps52
  go_wp2_with fail
  go_loopw [3, 4, 5] (fun v3 i4 i5 wr => ∃ (i f : Nat) (done : List Txt), i5 = .int .i64 i ∧ i4 = .int .i64 f ∧ Cut s.data.toList i f done ∧ done.length ≤ i ∧ (∃ A c, v3 = .slice A done.length c ∧ wr.ownsRow w.heap.size 9 1 (.slice A done.length c) done.length (done.map fun x => Value.string (stB x))) ∧ Keeps w wr []) (fun _ _ i5 _ => s.size + 1 - (intOf i5).toNat)
  case atStart => exact ⟨0, 0, [], rfl, rfl, Cut.zero _, Nat.le_refl _, ⟨none, 0, rfl, World.ownsRow_nil _ _ _ _⟩, Keeps.refl _ _⟩
  case round =>
    obtain ⟨i, f, done, rfl, rfl, hcut, hdl, ⟨A, c, rfl, hown⟩, hk⟩ := hrel
    have hif := hcut.2.1
    have hi1 := hcut.1
    have HC := Lib.hid hcut
    have HO := Lib.hid hown
    have HK := Lib.hid hk
    obtain ⟨n, hn⟩ : ∃ n, done.length = n := ⟨_, rfl⟩
    rw [hn] at HO hdl ⊢
    have HL := Lib.hid hn
    clear hcut hown hk hn
    by_cases hle : i ≤ s.size
    · have b1 : (i : Int) ≤ (s.size : Int) := by omega
      have b2 : (f : Int) ≤ (i : Int) := by omega
      have b3 : (0 : Int) ≤ (f : Int) := Int.natCast_nonneg _
      have HP := Lib.hid (piece_is s f i)
      by_cases hlt : i < s.size
      · have hx := dat_at s i hlt
        have b4 : (i : Int) < (s.size : Int) := by omega
        have b5 : ((i : Int) == (s.size : Int)) = false := by simp; omega
        have hr := s[i].toNat_lt
        have HX := Lib.hid hx
        clear hx
        obtain ⟨x, hxs⟩ : ∃ x, s[i] = x := ⟨_, rfl⟩
        rw [hxs] at HX hr
        by_cases hbl : x = 32
        · subst hbl
          have HC2 := Lib.hid (HC.out.blank HX.out)
          have K5 : Keeps wr (wr.alloc (.cells #[.string (s.extract f i)] 9)) [] := (Keeps.refl wr []).alloc _
          clear HX hr
          go_wp2_with (at_builtin; refine wpList_app _ el_str rfl (.tmp 22) (.tmp 27) rfl w.heap.size A n c _ rfl (own_keep0 HO.out K5) (some ⟨wr.heap.size, 0, none⟩) 1 1 [.string (s.extract f i)] rfl (Rd.one wr _ [.string (s.extract f i)]) rfl (by simp) (by simp [Value.oneCell']) (by omega) (by simp; have := HK.out.size; omega) ?_; intro A' c' w9 hown hgrow _; have ho4 := own_keep0 HO.out K5; have HK9 := Lib.hid ((HK.out.trans K5).app ho4 (Nat.le_refl _) hgrow))
          go_roundw
          case rel =>
            refine ⟨i + 1, i + 1, _, by go_num, by go_num, HC2.out, by simp only [List.length_append, List.length_singleton]; have := HL.out; omega, ⟨A', c', ?_, ?_⟩, HK9.out⟩
            · simp only [List.length_append, List.length_singleton, HL.out]
            · simp only [List.length_append, List.length_singleton, HL.out, List.map_append, List.map_cons, List.map_nil]
              rw [HP.out] at hown
              exact hown
          case measure => simp [intOf]; omega
        · have HC2 := Lib.hid (HC.out.more HX.out hbl)
          have b6 : ((x.toNat : Int) == 32) = false := by
            simp only [beq_eq_false_iff_ne, ne_eq]
            intro h
            apply hbl
            apply UInt8.toNat_inj.1
            show x.toNat = 32
            omega
          clear HX hbl
          go_wp2_with fail
          go_roundw
          case rel =>
            refine ⟨i + 1, f, done, by go_num, rfl, HC2.out, by have := HL.out; omega, ⟨A, c, by rw [HL.out], by rw [HL.out]; exact HO.out⟩, HK.out⟩
          case measure => simp [intOf]; omega
      · obtain rfl : i = s.size := by omega
        have HC2 := Lib.hid (HC.out.last)
        have HW : Hid (done ++ [(s.data.toList.take s.size).drop f] = splitT s.data.toList) := HC2.out.2.2.2 rfl
        have K5 : Keeps wr (wr.alloc (.cells #[.string (s.extract f s.size)] 9)) [] := (Keeps.refl wr []).alloc _
        go_wp2_with (at_builtin; refine wpList_app _ el_str rfl (.tmp 22) (.tmp 27) rfl w.heap.size A n c _ rfl (own_keep0 HO.out K5) (some ⟨wr.heap.size, 0, none⟩) 1 1 [.string (s.extract f s.size)] rfl (Rd.one wr _ [.string (s.extract f s.size)]) rfl (by simp) (by simp [Value.oneCell']) (by omega) (by simp; have := HK.out.size; omega) ?_; intro A' c' w9 hown hgrow _; have ho4 := own_keep0 HO.out K5; have HK9 := Lib.hid ((HK.out.trans K5).app ho4 (Nat.le_refl _) hgrow))
        go_roundw
        case rel =>
          refine ⟨s.size + 1, s.size + 1, _, by go_num, by go_num, HC2.out, by simp only [List.length_append, List.length_singleton]; have := HL.out; omega, ⟨A', c', ?_, ?_⟩, HK9.out⟩
          · simp only [List.length_append, List.length_singleton, HL.out]
          · simp only [List.length_append, List.length_singleton, HL.out, List.map_append, List.map_cons, List.map_nil]
            rw [HP.out] at hown
            exact hown
        case measure => simp [intOf]
    · have b1 : ¬ (i : Int) ≤ (s.size : Int) := by omega
      obtain rfl : i = s.data.toList.length + 1 := by omega
      have HW : Hid (done = splitT s.data.toList) := HC.out.2.2.2 rfl
      go_wp2_with fail
      go_ret
      refine ⟨A, c, ?_, ?_, HK.out⟩
      · rw [← HW.out, HL.out]; rfl
      · rw [← HW.out, HL.out]; exact HO.out
end Go.Proofs.YtpcihhdalofdiaaGreatDoor
