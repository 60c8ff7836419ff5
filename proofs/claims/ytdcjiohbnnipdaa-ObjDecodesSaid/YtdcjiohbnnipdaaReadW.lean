/- The walks of obj's reader: take, num, name. -/
import Derived.Test.YtdcjiohbnnipdaaRead
import Derived.Laws.BytesString
import Derived.Laws.Cells
namespace Go.Proofs.Ytdcjiohbnnipdaa
open Go.RowKit
attribute [local irreducible] takeR numR nameR

/-- The reader behind its pointer: its block g; its bytes lie below B. -/
structure RdrAt (w : World) (g B : Nat) (s : RdS) : Prop where
  ex : ∃ A n c, Blk w g 95 #[.slice A n c, .int .i64 s.err] ∧ s.rest.length = n ∧ n ≤ c ∧ Rd w A (u8s s.rest) ∧ ∀ a, A = some a → a.block < B ∧ a.block ≠ g
  lt : g < B
  le : B ≤ w.heap.size
  byte : IsByte s.rest
  len : s.rest.length ≤ 65536
theorem Rd.keepOff {w w' : World} {S : List Nat} {A : Option Addr} {vs : List Value} (h : Rd w A vs) (k : Keeps w w' S) (hA : ∀ a, A = some a → a.block ∉ S) : Rd w' A vs := by
  intro i hi
  obtain ⟨b, off, v, e, hb, hc, hv⟩ := h i hi
  exact ⟨b, off, v, e, Nat.lt_of_lt_of_le hb k.size, (k.cell (p := ⟨b, off + i, none⟩) hb (show b ∉ S from hA ⟨b, off, none⟩ e)).trans hc, hv⟩
theorem RdrAt.keep {w w' : World} {g B : Nat} {S : List Nat} {s : RdS} (h : RdrAt w g B s) (k : Keeps w w' S) (hS : ∀ q, q ∈ S → B ≤ q) : RdrAt w' g B s := by
  obtain ⟨A, n, c, h1, h2, h3, h4, h5⟩ := h.ex
  refine ⟨⟨A, n, c, h1.keep k (fun hm => by have := hS g hm; have := h.lt; omega), h2, h3, h4.keepOff k (fun a e hm => by have := hS _ hm; have := (h5 a e).1; omega), h5⟩, h.lt, Nat.le_trans h.le k.size, h.byte, h.len⟩
theorem RdrAt.keep0 {w w' : World} {g B : Nat} {s : RdS} (h : RdrAt w g B s) (k : Keeps w w' []) : RdrAt w' g B s := h.keep k (fun q hq => by cases hq)
theorem RdrAt.drew {w : World} {g B : Nat} {s : RdS} (h : RdrAt w g B s) : RdrAt w.drew g B s := h.keep0 (Keeps.refl w []).drew
theorem RdrAt.err {w : World} {g B : Nat} {s : RdS} (h : RdrAt w g B s) : w.cell? ⟨g, 1, none⟩ = some (.int .i64 s.err) := by
  obtain ⟨A, n, c, h1, _⟩ := h.ex
  exact h1.cell 1
/-- The error is laid. -/
theorem RdrAt.set {w : World} {g B : Nat} {s : RdS} (h : RdrAt w g B s) (e : Int) : RdrAt (w.setCell ⟨g, 1, none⟩ (.int .i64 e)) g B ⟨s.rest, e⟩ := by
  obtain ⟨A, n, c, h1, h2, h3, h4, h5⟩ := h.ex
  refine ⟨⟨A, n, c, h1.set_ 1 _, h2, h3, h4.keepOff ((Keeps.refl w [g]).setCell (.inl (by simp)) _) (fun a e => by have := h5 a e; simp; omega), h5⟩, h.lt, by simpa using h.le, h.byte, h.len⟩
/-- What a reader's call does: it tells x and lays the reader anew. -/
def TakeDone (w : World) (g B : Nat) (r : List Int × RdS) (e : Ending) (w' : World) : Prop :=
  ∃ A c, e = .returned (.slice A r.1.length c) ∧ Rd w' A (u8s r.1) ∧ IsByte r.1 ∧ RdrAt w' g B r.2 ∧ Keeps w w' [g]
theorem isByte_nil : IsByte [] := fun x hx => absurd hx (by simp)
theorem Rd.tail {w : World} {A : Option Addr} {vs : List Value} (h : Rd w A vs) (n : Nat) : Rd w (A.map (·.add n)) (vs.drop n) := by
  intro i hi
  rw [List.length_drop] at hi
  obtain ⟨b, off, v, e, hb, hc, hv⟩ := h (n + i) (by omega)
  subst e
  refine ⟨b, off + n, v, congrArg some (add_lit _ _ _), hb, ?_, ?_⟩
  · rw [Nat.add_assoc]; exact hc
  · rw [List.getElem?_drop]; exact hv
theorem map_add {A : Option Addr} {n : Nat} {a : Addr} (h : A.map (·.add n) = some a) : ∃ a', A = some a' ∧ a'.block = a.block := by
  cases A with
  | none => cases h
  | some a' =>
    simp only [Option.map_some, Option.some.injEq, Addr.add] at h
    split at h
    · exact ⟨a', rfl, by rw [h]⟩
    · exact ⟨a', rfl, by rw [← h]⟩
theorem take_end {w : World} {g B n m c : Nat} {s : RdS} {A A' : Option Addr} (h : RdrAt w g B s) (h1 : Blk w g 95 #[.slice A m c, .int .i64 s.err]) (h2 : s.rest.length = m) (h3 : m ≤ c) (h4 : Rd w A (u8s s.rest))
    (h5 : ∀ a, A = some a → a.block < B ∧ a.block ≠ g) (ht : takeR n s = (s.rest.take n, ⟨s.rest.drop n, 0⟩)) (he : s.err = 0) (hn : n ≤ m) (hA : (A' = A ∧ c = n) ∨ A' = A.map (·.add n)) :
    TakeDone w g B (takeR n s) (.returned (.slice A n c)) (w.setCell ⟨g, 0, none⟩ (.slice A' (m - n) (c - n))) := by
  have hk : Keeps w (w.setCell ⟨g, 0, none⟩ (.slice A' (m - n) (c - n))) [g] := (Keeps.refl w [g]).setCell (.inl (by simp)) _
  rw [ht]
  refine ⟨A, c, ?_, ?_, isByte_take h.byte _, ?_, hk⟩
  · show _ = Ending.returned (.slice A (s.rest.take n).length c)
    rw [List.length_take, Nat.min_eq_left (by omega)]
  · have := (h4.take n).keepOff hk (fun a e => by have := h5 a e; simp; omega)
    simpa [u8s, List.map_take] using this
  · refine ⟨⟨A', m - n, c - n, ?_, ?_, by omega, ?_, ?_⟩, h.lt, by simpa using h.le, isByte_drop h.byte _, ?_⟩
    · have := h1.set_ 0 (.slice A' (m - n) (c - n))
      rw [he] at this
      exact this
    · show (s.rest.drop n).length = _
      rw [List.length_drop, h2]
    · rcases hA with ⟨rfl, hc⟩ | rfl
      · have h0 : s.rest.drop n = [] := List.drop_eq_nil_of_le (by omega)
        show Rd _ _ (u8s (s.rest.drop n))
        rw [h0]
        exact Rd.nil
      · have := (h4.tail n).keepOff hk (fun a e => by
          obtain ⟨a', e', eb⟩ := map_add e
          have := h5 a' e'
          simp
          omega)
        simpa [u8s, List.map_drop] using this
    · intro a e
      rcases hA with ⟨rfl, hc⟩ | rfl
      · exact h5 a e
      · obtain ⟨a', e', eb⟩ := map_add e
        rw [← eb]
        exact h5 a' e'
    · show (s.rest.drop n).length ≤ _
      have := h.len
      rw [List.length_drop]
      omega

set_option maxRecDepth 20000 in
set_option maxHeartbeats 800000 in
theorem take_any (n : Nat) (w : World) (g B : Nat) (s : RdS) (h : RdrAt w g B s) : Calls Try.prog 96 #[.pointer (some ⟨g, 0, none⟩), .int .i64 n] w (TakeDone w g B (takeR n s)) := by
  obtain ⟨A, m, c, h1, h2, h3, h4, h5⟩ := h.ex
  have H := Lib.hid h
  have H1 := Lib.hid h1
  have H2 := Lib.hid h2
  have H3 := Lib.hid h3
  have H4 := Lib.hid h4
  have H5 := Lib.hid h5
  have hlen := h.len
  rw [h2] at hlen
  have q0 := h1.cell 0
  have q1 := h1.cell 1
  have f1 := h1.frozen 1
  have f0 := h1.frozen 0
  clear h1 h2 h4 h5 h
  by_cases he : s.err = 0
  · rw [he] at q1
    by_cases hn : n ≤ m
    · have HT := Lib.hid (takeR_ok he (by rw [H2.out]; exact hn) : takeR n s = _)
      have d1 : decide ((m : Int) < (n : Int)) = false := by simp only [decide_eq_false_iff_not]; omega
      have b0 : (0 : Int) ≤ (n : Int) := by omega
      have b1 : (n : Int) ≤ (c : Int) := by omega
      have b2 : (n : Int) ≤ (m : Int) := by omega
      have HE0 := Lib.hid he
      clear he
      go_enter Try.func96, Try.ntmps96
      go_wp2_with fail
      · go_ret
        have hc : c = n := by assumption
        have := take_end H.out H1.out H2.out H3.out H4.out H5.out HT.out HE0.out hn (.inl ⟨rfl, hc⟩)
        rw [hc, Nat.sub_self] at this
        exact this
      · go_ret
        exact take_end H.out H1.out H2.out H3.out H4.out H5.out HT.out HE0.out hn (.inr rfl)
    · have HT := Lib.hid (takeR_short he (by rw [H2.out]; exact hn) : takeR n s = _)
      have d1 : decide ((m : Int) < (n : Int)) = true := by simp only [decide_eq_true_eq]; omega
      clear he
      go_enter Try.func96, Try.ntmps96
      go_wp2_with fail
      go_ret
      rw [HT.out]
      exact ⟨none, 0, rfl, Rd.nil, isByte_nil, H.out.set 3, (Keeps.refl w [g]).setCell (.inl (by simp)) _⟩
  · have HT := Lib.hid (takeR_bad he : takeR n s = _)
    have d1 : (s.err != 0) = true := by simpa using he
    have d2 : (s.err == 0) = false := by simpa using he
    clear he
    go_enter Try.func96, Try.ntmps96
    go_wp2_with fail
    go_ret
    rw [HT.out]
    exact ⟨none, 0, rfl, Rd.nil, isByte_nil, H.out, Keeps.refl w [g]⟩
/-- What a call that tells a value and reads on does. -/
def NumRead (w : World) (g B : Nat) (v : Value) (s : RdS) (e : Ending) (w' : World) : Prop := e = .returned v ∧ RdrAt w' g B s ∧ Keeps w w' [g]
theorem i64_or (k : Nat) (h : k < 18014398509481984) (c : Int) (h0 : 0 ≤ c) (h1 : c < 256) : bits .or .i64 ((k : Int) * 256) c = ((k * 256 + c.toNat : Nat) : Int) := by
  have := bits_join .i64 62 (by decide) (fun n h0 h1 => by rw [IntKind.wrap_i64]; omega) 8 ((k : Int) * 256) c (by omega) (by omega) (by omega) h0 (by omega) (by omega)
  rw [this]
  omega
theorem valB_take {l : List Int} {j : Nat} {x : Int} (hx : l[j]? = some x) : valB (l.take (j + 1)) = valB (l.take j) * 256 + x.toNat := by
  rw [List.take_add_one, hx]
  exact valB_snoc _ _
set_option maxRecDepth 20000 in
set_option maxHeartbeats 800000 in
theorem rnum_any (k : Nat) (hk : k ≤ 4) (w : World) (g B : Nat) (s : RdS) (h : RdrAt w g B s) : Calls Try.prog 45 #[.pointer (some ⟨g, 0, none⟩), .int .i64 k] w (NumRead w g B (.int .i64 (numR k s).1) (numR k s).2) := by
  have H := Lib.hid h
  clear h
  have hl := takeR_len k s
  have HV : Hid ((numR k s).1 = valB (takeR k s).1 ∧ (numR k s).2 = (takeR k s).2) := by unfold numR; exact ⟨rfl, rfl⟩
  have HT := Lib.hid (take_any k w g B s H.out)
  go_enter Try.func45, Try.ntmps45
  go_wp2_with fail
  refine HT.out.mono ?_
  rintro e w1 ⟨A, c, rfl, hrd, hby, hst, kk⟩
  obtain ⟨l, hle⟩ : ∃ l, (takeR k s).1 = l := ⟨_, rfl⟩
  rw [hle] at HV hl hrd hby ⊢
  obtain ⟨m, hm⟩ : ∃ m, l.length = m := ⟨_, rfl⟩
  rw [hm] at hl ⊢
  have HM := Lib.hid hm
  have HRD := Lib.hid hrd
  have HBY := Lib.hid hby
  have HST := Lib.hid hst
  have HK := Lib.hid kk
  clear hle hm hrd hby hst kk
  go_wp2_with fail
  go_loopw [5, 7, 12] (fun n v7 i wr => ∃ j : Nat, j ≤ m ∧ i = .int .i64 j ∧ n = .int .i64 (valB (l.take j) : Nat) ∧ wr = w1) (fun _ _ i _ => m - (intOf i).toNat)
  case atStart => exact ⟨0, Nat.zero_le _, rfl, rfl, rfl⟩
  case round =>
    obtain ⟨j, hj, rfl, rfl, rfl⟩ := hrel
    by_cases hlt : j < m
    · obtain ⟨x, hx⟩ := at_of HM.out hlt
      obtain ⟨b, off, v, hA, hb, hc, hv⟩ := HRD.out j (by rw [u8s_len, HM.out]; exact hlt)
      subst hA
      rw [u8s, List.getElem?_map, hx] at hv
      injection hv with hv
      subst hv
      obtain ⟨x0, x1⟩ := HBY.out x (List.mem_of_getElem? hx)
      have HX := Lib.hid (valB_take hx)
      have hvl := valB_lt (isByte_take HBY.out j)
      have hvl2 : valB (l.take j) < 16777216 := by
        refine Nat.lt_of_lt_of_le hvl (Nat.le_trans (Nat.pow_le_pow_right (by decide) (show (l.take j).length ≤ 3 by rw [List.length_take]; omega)) (by decide))
      have hor := i64_or (valB (l.take j)) (by omega) x x0 x1
      have b0 : (0 : Int) ≤ (j : Int) := Int.natCast_nonneg _
      have b1 : (j : Int) < (m : Int) := by omega
      clear hx
      rw [← HX.out] at hor
      generalize valB (l.take j) = v at *
      go_wp2_with fail
      go_roundw
      case rel => exact ⟨j + 1, by omega, by go_num, rfl, trivial⟩
      case measure => simp [intOf]; omega
    · obtain rfl : m = j := by omega
      have HW : Hid (valB (l.take m) = (numR k s).1) := by show _ = _; rw [HV.out.1, List.take_of_length_le (by have := HM.out; omega)]
      go_wp2_with fail
      go_ret
      exact ⟨by rw [← HW.out]; rfl, by rw [HV.out.2]; exact HST.out, HK.out⟩
/-- 'string(b)'. -/
theorem conv_str {P : Program} (w : World) (src dst e : TypeId) (A : Option Addr) (n c : Nat) (l : List Int) (hs : P.underlying src = some (.slice e)) (he : P.underlying e = some (.int .u8)) (hd : P.underlying dst = some .string)
    (hn : l.length = n) (hA : Rd w A (u8s l)) : (convert src dst (.slice A n c)).run P w = .ok (.string (strB l)) w := by
  rw [run_convert_bytes_string w src dst e A n c hs he hd]
  subst hn
  cases A with
  | none =>
    cases l with
    | nil => rfl
    | cons x l =>
      obtain ⟨b, off, v, e, _⟩ := hA 0 (by simp [u8s])
      cases e
  | some a =>
    refine run_bytesToString w a l.length c l ?_
    rw [← u8s_len l]
    refine run_loadCells_list w a (u8s l) ?_
    intro j v hj
    have hj' : j < (u8s l).length := by
      rcases Nat.lt_or_ge j (u8s l).length with h | h
      · exact h
      · rw [List.getElem?_eq_none h] at hj; cases hj
    obtain ⟨b, off, v', e, hb, hc, hv⟩ := hA j hj'
    injection e with e
    subst e
    rw [add_lit, hc, ← hv, hj]
set_option maxRecDepth 20000 in
set_option maxHeartbeats 800000 in
theorem rname_any (w : World) (g B : Nat) (s : RdS) (h : RdrAt w g B s) : Calls Try.prog 94 #[.pointer (some ⟨g, 0, none⟩)] w (NumRead w g B (.string (nameR s).1) (nameR s).2) := by
  have HN := Lib.hid (rnum_any 1 (by omega) w g B s h)
  have HV : Hid ((nameR s).1 = strB (takeR (numR 1 s).1 (numR 1 s).2).1 ∧ (nameR s).2 = (takeR (numR 1 s).1 (numR 1 s).2).2) := by unfold nameR; exact ⟨rfl, rfl⟩
  clear h
  generalize numR 1 s = r at *
  go_enter Try.func94, Try.ntmps94
  go_wp2_with fail
  refine HN.out.mono ?_
  rintro e w1 ⟨rfl, h1, k1⟩
  have HT := Lib.hid (take_any r.1 w1 g B r.2 h1)
  have HK1 := Lib.hid k1
  clear h1 k1
  go_wp2_with fail
  refine HT.out.mono ?_
  rintro e w2 ⟨A, c, rfl, hrd, hby, hst, kk⟩
  have HST := Lib.hid hst
  have HK := Lib.hid kk
  have hcv := conv_str (P := Try.prog) w2 22 9 5 A _ c _ Try.underlying22 Try.underlying5 Try.underlying9 rfl hrd
  clear hst kk hrd hby
  go_wp2_with fail
  go_ret
  exact ⟨by rw [HV.out.1]; rfl, by rw [HV.out.2]; exact HST.out, HK1.out.trans HK.out⟩
end Go.Proofs.Ytdcjiohbnnipdaa
