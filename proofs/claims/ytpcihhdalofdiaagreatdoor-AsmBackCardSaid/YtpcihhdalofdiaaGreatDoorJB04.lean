/- AsmBack: the lines of what was made. No program in sight. -/
import Derived.Test.YtpcihhdalofdiaaGreatDoorJB03
import Derived.Test.YtpcihhdalofdiaaGreatDoorSame
namespace Go.Proofs.YtpcihhdalofdiaaGreatDoor

theorem fits_ok {o : LObj} (h : checkE o = 0) : Fits o ∧ o.code.length ≤ 1024 := by
  have h1 := (check_ok h).big
  unfold bigO bigB at h1
  simp only [Bool.or_eq_false_iff, decide_eq_false_iff_not] at h1
  obtain ⟨h2, h3, h4⟩ := h1
  split at h2 <;> simp only [decide_eq_false_iff_not] at h2 <;> exact ⟨⟨by omega, by omega, by omega, by omega⟩, by omega⟩
theorem lineT_short {o : LObj} (h : ObjOk o) (n : Nat) (hn : n ≤ 1024) {i : LIns} (hi : i ∈ o.code) : ∀ s ∈ lineT o n i, s.length ≤ 1000 := by
  intro s hs
  rw [lineT_is] at hs
  rcases List.mem_append.1 hs with hs | hs
  · obtain ⟨p, hp, rfl⟩ := List.mem_map.1 hs
    have hpm := List.mem_of_find?_eq_some (Option.mem_toList.1 hp)
    have hpo := h.preds p hpm
    simp only [predOk, Bool.and_eq_true, decide_eq_true_eq] at hpo
    have := slT_len (f := ⟨p.name, p.arity⟩) hpo.1 (by simp only; omega)
    unfold lnP predW
    simp only [List.length_append, List.length_cons, List.length_nil]
    omega
  · rcases List.mem_append.1 hs with hs | hs
    · split at hs
      · obtain rfl := List.mem_singleton.1 hs
        rw [List.length_cons]
        have := (digits_len n (by omega)).2
        omega
      · cases hs
    · obtain rfl := List.mem_singleton.1 hs
      have h2 := h.ins hi
      exact textT_len h2.1 h2.2
theorem linesFrom_short {o : LObj} (h : ObjOk o) : ∀ (l : List LIns) (n : Nat), n + l.length ≤ 1024 → (∀ i ∈ l, i ∈ o.code) → ∀ s ∈ linesFrom o n l, s.length ≤ 1000
  | [], _, _, _, s, hs => by cases hs
  | i :: l, n, hn, hm, s, hs => by
    rw [linesFrom] at hs
    rw [List.length_cons] at hn
    rcases List.mem_append.1 hs with hs | hs
    · exact lineT_short h n (by omega) (hm i (by simp)) s hs
    · exact linesFrom_short h l (n + 1) (by omega) (fun x hx => hm x (by simp [hx])) s hs
/-- All that the second half of AsmBack needs of the first object. -/
theorem back_all {l : List Txt} {o : LObj} {m : Int} (h : programP l = (o, 0, m)) : Fits o ∧ linesE o = linesT o ∧ programP (((linesT o).map stB).map (·.data.toList)) = (o, 0, -1) ∧ (linesT o).length ≤ 100000 ∧ ∀ s ∈ (linesT o).map stB, s.size ≤ 4294967000 := by
  have hc := program_ok h
  obtain ⟨hf, h4⟩ := fits_ok hc
  refine ⟨hf, ?_, ?_, ?_, fun s hs => ?_⟩
  · unfold linesE
    rw [if_neg (by rw [hc]; decide)]
  · have e : ((linesT o).map stB).map (fun s : ByteArray => s.data.toList) = linesT o := by
      rw [List.map_map]
      have : ((fun s : ByteArray => s.data.toList) ∘ stB) = id := by
        funext x
        exact stB_list x
      rw [this, List.map_id]
    rw [e]
    exact program_back h
  · have := linesFrom_few o o.code 0
    unfold linesT
    omega
  · obtain ⟨t, ht, rfl⟩ := List.mem_map.1 hs
    have := linesFrom_short (check_ok hc) o.code 0 (by omega) (fun i hi => hi) t ht
    rw [stB_size]
    omega
end Go.Proofs.YtpcihhdalofdiaaGreatDoor

/- AsmBack, walked. -/
namespace Go.Proofs.YtpcihhdalofdiaaGreatDoor
open Go.RowKit Go.Maps
attribute [local irreducible] checkE linesT linesE programP fewB

set_option maxRecDepth 100000 in
set_option maxHeartbeats 12800000 in
theorem asmBack_any (ls : List ByteArray) (A : Option Addr) (n c : Nat) (w : World) (hl : ls.length = n) (hn : n ≤ 9223372036854775807) (hA : Rd w A (ls.flatMap strE)) (h : St w) :
    Calls Tryz.prog 5 #[.slice A n c] w fun e w' => e = .returned (.bool true) ∧ Keeps w w' [] := by
  have HL := Lib.hid hl
  have HA := Lib.hid hA
  have HS := Lib.hid h
  have HF := Lib.hid (few9_any ls A n c w hl hn hA)
  obtain ⟨o, e, m, hP⟩ : ∃ o e m, programP (ls.map (·.data.toList)) = (o, e, m) := ⟨_, _, _, rfl⟩
  have HP := Lib.hid hP
  clear hP h hA
  go_enter Tryz.func5, Tryz.ntmps5
  go_wp2_with fail
  refine HF.out.mono ?_
  rintro x w1 ⟨rfl, k1⟩
  have HK1 := Lib.hid k1
  clear k1 HF
  cases hf : fewB ls with
  | false =>
    go_wp2_with fail
    refine (told9_any _ (HS.out.keep HK1.out)).mono ?_
    rintro x w2 ⟨rfl, k2⟩
    go_wp2_with fail
    go_ret
    exact ⟨rfl, HK1.out.trans k2⟩
  | true =>
    have hfew : ls.length ≤ 200 ∧ ∀ s ∈ ls, s.size ≤ 200 := by
      unfold fewB at hf
      simp only [Bool.and_eq_true, List.all_eq_true, decide_eq_true_eq] at hf
      exact ⟨hf.2, hf.1⟩
    have HPr := programA_any ls A n c w1 (HS.out.keep HK1.out) HL.out (by omega) (HA.out.keep HK1.out) (fun s hs => by have := hfew.2 s hs; omega)
    rw [HP.out] at HPr
    unfold PrDone at HPr
    simp only at HPr
    have HPr := Lib.hid HPr
    clear hfew
    go_wp2_with fail
    refine HPr.out.mono ?_
    rintro x w2 ⟨Aa, Af, Ap, Ac, ca, cf, cp, cc, rfl, hob, k2⟩
    have HO := Lib.hid hob
    have HK2 := Lib.hid (HK1.out.trans k2)
    clear hob k2 HPr
    go_wp2_with fail
    have k3 : Keeps w2 (w2.alloc (.cells #[.slice Aa o.atoms.length ca, .slice Af o.funs.length cf, .slice Ap o.preds.length cp, .slice Ac o.code.length cc] 31)) [] := (Keeps.refl w2 []).alloc _
    have HB3 : Hid (Blk (w2.alloc (.cells #[.slice Aa o.atoms.length ca, .slice Af o.funs.length cf, .slice Ap o.preds.length cp, .slice Ac o.code.length cc] 31)) w2.heap.size 31 #[.slice Aa o.atoms.length ca, .slice Af o.funs.length cf, .slice Ap o.preds.length cp, .slice Ac o.code.length cc]) := Blk.new _ _ _
    have HK3 := Lib.hid (HK2.out.trans k3)
    have HO3 := Lib.hid (HO.out.keep k3)
    clear k3 HO
    generalize w2.heap.size = g2 at *
    generalize w2.alloc (.cells #[.slice Aa o.atoms.length ca, .slice Af o.funs.length cf, .slice Ap o.preds.length cp, .slice Ac o.code.length cc] 31) = w3 at *
    refine (told9_any _ (HS.out.keep HK3.out)).mono ?_
    rintro x w4 ⟨rfl, k4⟩
    have HK4 := Lib.hid (HK3.out.trans k4)
    have HB4 := Lib.hid (HB3.out.keep k4 (by simp))
    have HO4 := Lib.hid (HO3.out.keep k4)
    clear k4 HB3 HO3 HK3
    by_cases he : e = 0
    case neg =>
      have he' : (e != 0) = true := by simpa using he
      go_wp2_with fail
      refine (told9_any _ (HS.out.keep HK4.out)).mono ?_
      rintro x w5 ⟨rfl, k5⟩
      go_wp2_with fail
      go_ret
      exact ⟨rfl, HK4.out.trans k5⟩
    case pos =>
      subst he
      have HBk := Lib.hid (back_all HP.out)
      have x0 := HB4.out.cell 0
      have x1 := HB4.out.cell 1
      have x2 := HB4.out.cell 2
      have x3 := HB4.out.cell 3
      go_wp2_with fail
      refine (linesA_any o Aa Af Ap Ac _ _ _ _ ca cf cp cc w4 HO4.out HBk.out.1 rfl rfl rfl rfl (HS.out.keep HK4.out)).mono ?_
      rintro x w5 ⟨X, xc, rfl, hx, k5, _⟩
      rw [HBk.out.2.1] at hx ⊢
      have HX5 := Lib.hid hx
      have HK5 := Lib.hid (HK4.out.trans k5)
      have HB5 := Lib.hid (HB4.out.keep k5 (by simp))
      have HO5 := Lib.hid (HO4.out.keep k5)
      clear k5 hx HB4 HO4 HK4 x0 x1 x2 x3
      have HPr := programA_any ((linesT o).map stB) X (linesT o).length xc w5 (HS.out.keep HK5.out) (List.length_map _) HBk.out.2.2.2.1 HX5.out HBk.out.2.2.2.2
      rw [HBk.out.2.2.1] at HPr
      unfold PrDone at HPr
      simp only at HPr
      have HPr := Lib.hid HPr
      go_wp2_with fail
      refine HPr.out.mono ?_
      rintro x w6 ⟨Ba, Bf, Bp, Bc, da, df, dp, dc, rfl, hob, k6⟩
      have HK6 := Lib.hid (HK5.out.trans k6)
      have HX6 := Lib.hid (HX5.out.keep k6)
      have HB6 := Lib.hid (HB5.out.keep k6 (by simp))
      have HO6 := Lib.hid (HO5.out.keep k6)
      have HQ6 := Lib.hid hob
      have k7 : Keeps w6 (w6.alloc (.cells #[.slice Ba o.atoms.length da, .slice Bf o.funs.length df, .slice Bp o.preds.length dp, .slice Bc o.code.length dc] 31)) [] := (Keeps.refl w6 []).alloc _
      have HC7 : Hid (Blk (w6.alloc (.cells #[.slice Ba o.atoms.length da, .slice Bf o.funs.length df, .slice Bp o.preds.length dp, .slice Bc o.code.length dc] 31)) w6.heap.size 31 #[.slice Ba o.atoms.length da, .slice Bf o.funs.length df, .slice Bp o.preds.length dp, .slice Bc o.code.length dc]) := Blk.new _ _ _
      have HK7 := Lib.hid (HK6.out.trans k7)
      have HX7 := Lib.hid (HX6.out.keep k7)
      have HB7 := Lib.hid (HB6.out.keep k7 (by simp))
      have HO7 := Lib.hid (HO6.out.keep k7)
      have HQ7 := Lib.hid (HQ6.out.keep k7)
      clear k6 k7 hob HPr HK5 HX5 HB5 HO5 HK6 HX6 HB6 HO6 HQ6
      have x0 := HC7.out.cell 0
      have x1 := HC7.out.cell 1
      have x2 := HC7.out.cell 2
      have x3 := HC7.out.cell 3
      go_wp2_with fail
      refine (linesA_any o Ba Bf Bp Bc _ _ _ _ da df dp dc _ HQ7.out HBk.out.1 rfl rfl rfl rfl (HS.out.keep HK7.out)).mono ?_
      rintro x w8 ⟨Y, yc, rfl, hy, k8, _⟩
      rw [HBk.out.2.1] at hy ⊢
      have HY8 := Lib.hid hy
      have HK8 := Lib.hid (HK7.out.trans k8)
      have HX8 := Lib.hid (HX7.out.keep k8)
      have HB8 := Lib.hid (HB7.out.keep k8 (by simp))
      have HC8 := Lib.hid (HC7.out.keep k8 (by simp))
      have HO8 := Lib.hid (HO7.out.keep k8)
      have HQ8 := Lib.hid (HQ7.out.keep k8)
      clear k8 hy HK7 HX7 HB7 HC7 HO7 HQ7 x0 x1 x2 x3
      generalize w6.heap.size = g6 at *
      go_wp2_with fail
      refine (strings9_any ((linesT o).map stB) ((linesT o).map stB) Y X _ _ yc xc w8 (List.length_map _) (List.length_map _) (by have := HBk.out.2.2.2.1; omega) HY8.out HX8.out).mono ?_
      rintro x w9 ⟨rfl, k9⟩
      rw [decide_eq_true rfl]
      have HK9 := Lib.hid (HK8.out.trans k9)
      have HB9 := Lib.hid (HB8.out.keep k9 (by simp))
      have HC9 := Lib.hid (HC8.out.keep k9 (by simp))
      have HO9 := Lib.hid (HO8.out.keep k9)
      have HQ9 := Lib.hid (HQ8.out.keep k9)
      clear k9 HK8 HX8 HY8 HB8 HC8 HO8 HQ8
      have x0 := HC9.out.cell 0
      have x1 := HC9.out.cell 1
      have x2 := HC9.out.cell 2
      have x3 := HC9.out.cell 3
      have y0 := HB9.out.cell 0
      have y1 := HB9.out.cell 1
      have y2 := HB9.out.cell 2
      have y3 := HB9.out.cell 3
      go_wp2_with fail
      refine (same_any o o Ba Bf Bp Bc Aa Af Ap Ac _ _ _ _ _ _ _ _ da df dp dc ca cf cp cc w9 HQ9.out HO9.out HBk.out.1 HBk.out.1 rfl rfl rfl rfl rfl rfl rfl rfl).mono ?_
      rintro x w10 ⟨rfl, k10⟩
      rw [decide_eq_true rfl]
      have HK10 := Lib.hid (HK9.out.trans k10)
      clear k10 x0 x1 x2 x3 y0 y1 y2 y3 HB9 HC9 HO9 HQ9 HK9
      go_wp2_with fail
      go_ret
      exact ⟨rfl, HK10.out⟩
end Go.Proofs.YtpcihhdalofdiaaGreatDoor
