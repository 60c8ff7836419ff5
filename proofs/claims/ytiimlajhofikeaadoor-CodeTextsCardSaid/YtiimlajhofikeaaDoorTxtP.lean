/- CodeTexts: for every instruction and every text the law answers true. -/
import Derived.Test.YtiimlajhofikeaaDoorTxtO
namespace Go.Proofs.YtiimlajhofikeaaDoor
open Go.RowKit

theorem names_some : ∀ k : Nat, k < 27 → nameT (k : Int) ≠ [] := by decide +kernel
theorem txt_ne {i : LIns} (h : insOk i = true) : insTxt i ≠ [] := by
  have hop : opIn i.op = true := by simp only [insOk, Bool.and_eq_true] at h; exact h.1
  rw [insTxt, if_pos h]
  simp only [opIn, Bool.and_eq_true, decide_eq_true_eq] at hop
  obtain ⟨k, hk⟩ := Int.eq_ofNat_of_zero_le hop.1
  have hn := names_some k (by omega)
  rw [← hk] at hn
  unfold wordsOf
  cases (List.range (kindsOf i.op).length).map fun j => opTxt ((kindsOf i.op).getD j 0).toNat (i.arg j).toNat with
  | nil => exact hn
  | cons y l => simp [joinT, hn]
theorem txt_few (i : LIns) : (insTxt i).length ≤ 4294967280 := by
  by_cases h : insOk i = true
  · rw [insTxt, if_pos h]
    have h1 := joinT_len (wordsOf i) (words_len h)
    have h2 : (wordsOf i).length ≤ 5 := by have := kinds_few i.op; rw [words_num]; omega
    have h3 : (wordsOf i).length * (10 + 1) ≤ 5 * 11 := Nat.mul_le_mul_right _ h2
    omega
  · rw [insTxt, if_neg h]
    simp
theorem parse_cases (f : Nat → Txt → Int) (s : Txt) : ((parseT f s).2 = 0 ∧ insTxt (parseT f s).1 = s) ∨ ((parseT f s).2 = 17) := by
  unfold parseT
  by_cases h : s = [] ∨ insTxt (cand f s) ≠ s
  · rw [if_pos h]
    exact .inr rfl
  · rw [if_neg h]
    exact .inl ⟨rfl, Classical.not_not.1 fun hh => h (.inr hh)⟩
theorem parse_txt (i : LIns) : (insOk i = true ∧ parseT opP (insTxt i) = (i, 0)) ∨ (insOk i = false ∧ parseT opP (insTxt i) = (⟨0, 0, 0, 0, 0⟩, 17)) := by
  cases h : insOk i with
  | true => exact .inl ⟨rfl, parse_of opP_txt h (txt_ne h)⟩
  | false =>
    have e : insTxt i = [] := by rw [insTxt, if_neg (by rw [h]; simp)]
    rw [e, parseT, if_pos (.inl rfl)]
    exact .inr ⟨rfl, rfl⟩

set_option maxRecDepth 100000 in
set_option maxHeartbeats 800000 in
theorem codeTexts_long (i : LIns) (s : ByteArray) (w : World) (h : St w) (hs : 200 < s.size) :
    Calls Tryd.prog 5 #[insV i, .string s] w fun e w' => e = .returned (.bool true) ∧ Keeps w w' [] := by
  have d0 : decide (200 < (s.size : Int)) = true := by simp; omega
  have HSt : Hid (St (w.alloc (.cells #[.int .i64 i.op, .int .i64 i.a0, .int .i64 i.a1, .int .i64 i.a2, .int .i64 i.a3] 24))) := h.keep ((Keeps.refl w []).alloc _)
  have HK0 : Hid (Keeps w (w.alloc (.cells #[.int .i64 i.op, .int .i64 i.a0, .int .i64 i.a1, .int .i64 i.a2, .int .i64 i.a3] 24)) []) := (Keeps.refl w []).alloc _
  clear h hs
  unfold insV
  go_enter Tryd.func5, Tryd.ntmps5
  go_wp2_with fail
  refine (told6_any _ HSt.out).mono ?_
  rintro e w1 ⟨rfl, k1⟩
  go_wp2_with fail
  go_ret
  exact ⟨by simp, HK0.out.trans k1⟩

theorem codeTexts_any (i : LIns) (s : ByteArray) (w : World) (h : St w) :
    Calls Tryd.prog 5 #[insV i, .string s] w fun e w' => e = .returned (.bool true) ∧ Keeps w w' [] := by
  by_cases hs : 200 < s.size
  · exact codeTexts_long i s w h hs
  have hs' : s.size ≤ 200 := by omega
  have hP := parse6_any s (by omega)
  have hR := refParse6_any s (by omega)
  rw [← parse_same] at hR
  have hT : ∀ w, St w → Calls Tryd.prog 15 #[insV i] w fun e w' => e = .returned (.string (stB (insTxt i))) ∧ Keeps w w' [] := fun w hw => ptext_any i w hw.tab
  have hPT := parse6_any (stB (insTxt i)) (by rw [stB_size]; exact txt_few i)
  rw [stB_list] at hPT
  have hRR := refRight6_any i
  have hpc := parse_cases opP s.data.toList
  obtain ⟨⟨j, e⟩, hje⟩ : ∃ p, parseT opP s.data.toList = p := ⟨_, rfl⟩
  rw [hje] at hP hR hpc
  have hj : ∀ w, St w → insTxt j = s.data.toList → Calls Tryd.prog 15 #[insV j] w fun e w' => e = .returned (.string s) ∧ Keeps w w' [] := fun w hw he => by
    have := ptext_any j w hw.tab
    rw [he, stB_of] at this
    exact this
  have hFj := insFrom6_any j
  have hFi := insFrom6_any i
  have hTo := insTo6_any i
  clear hje
  rcases hpc with ⟨he, ht⟩ | he <;> rcases parse_txt i with ⟨ho, hm⟩ | ⟨ho, hm⟩ <;> simp only at he <;> subst he <;> rw [hm] at hPT <;> rw [ho] at hRR <;> obtain ⟨jo, j0, j1, j2, j3⟩ := j <;> obtain ⟨io, i0, i1, i2, i3⟩ := i
  · exact codeTexts_0_0 io i0 i1 i2 i3 jo j0 j1 j2 j3 _ s _ w h hs' hP hR hTo hT hPT hFj hFi (named6_any s) (refNamed_any s) hRR (fun w hw => hj w hw ht)
  · exact codeTexts_0_17 io i0 i1 i2 i3 jo j0 j1 j2 j3 0 0 0 0 0 _ s _ w h hs' hP hR hTo hT hPT hFj (named6_any s) (refNamed_any s) hRR (fun w hw => hj w hw ht)
  · exact codeTexts_17_0 io i0 i1 i2 i3 jo j0 j1 j2 j3 _ s _ w h hs' hP hR hTo hT hPT hFj hFi (named6_any s) (refNamed_any s) hRR
  · exact codeTexts_17_17 io i0 i1 i2 i3 jo j0 j1 j2 j3 0 0 0 0 0 _ s _ w h hs' hP hR hTo hT hPT hFj (named6_any s) (refNamed_any s) hRR
end Go.Proofs.YtiimlajhofikeaaDoor
