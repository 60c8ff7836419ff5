/- Terms in words: the program's Text. -/
import Derived.Test.YtjbomjnkjcafcaaDoorTmLaw
import Derived.Test.YtjbomjnkjcafcaaDoorText
import Derived.Test.YtjbomjnkjcafcaaDoorShelf
import Derived.Lib.SmallJoins
import Derived.Deep.Cut
import Derived.Deep.CutRange
import Derived.Deep.CutBlock
import Derived.Deep.DeepCutAuto
namespace Go.Proofs.YtjbomjnkjcafcaaDoor
open Go.RowKit

theorem keeps_growN (w : World) (k : Nat) (os : Array Obj) : Keeps w (Sort.grow (w.drewN k) os) [] :=
  ⟨rfl, rfl, rfl, by simp, fun i hi _ => by
    show ((w.drewN k).heap ++ os)[i]? = _
    rw [Array.getElem?_append_left (by simpa using hi)]
    rfl⟩
/-- The table that Itoa reads. -/
def Tab (w : World) : Prop := Lib.TabIs Tryd.prog w "internal/strconv.uint64pow10" .u64 Lib.pow10Tab
theorem Tab.keep {w w' : World} (h : Tab w) (k : Keeps w w' []) : Tab w' :=
  Joins.tab_stays (g := 0) (B := w.heap.size) (by kernel_rfl) h ⟨k.os, k.tape, k.output, k.size, fun i hi => k.block i hi (by simp)⟩ (Nat.le_refl _)
theorem itoa_any (n : Nat) (hn : n ≤ 9223372036854775807) (w : World) (ht : Tab w) :
    Calls Tryd.prog 30 #[.int .i64 n] w fun e w' => e = .returned (.string (stB (Lib.decDigits n))) ∧ Keeps w w' [] := by
  refine (Tryd.strconv_Itoa n (by omega) (by omega) w ht).mono ?_
  rintro e w' ⟨rfl, k, os, rfl⟩
  have e1 : Lib.itoa (n : Int) = Lib.decDigits n := by
    unfold Lib.itoa
    rw [if_neg (by omega)]
    simp
  exact ⟨by rw [e1]; rfl, keeps_growN w k os⟩
theorem own_room6 {w : World} {base n c size : Nat} {e : TypeId} {A : Option Addr} {xs : List Value} (h : w.ownsRow base e size (.slice A n c) n xs) : n ≤ c ∧ ∀ a, A = some a → a.block < w.heap.size := by
  rcases h.2 with ⟨h2, h3⟩ | ⟨g, cap, cur, hv, hb, hg, hn, _⟩
  · injection h2 with h4 h5 h6
    subst h4
    exact ⟨by omega, fun a ha => by cases ha⟩
  · injection hv with h4 h5 h6
    subst h4 h6
    refine ⟨hn, fun a ha => ?_⟩
    injection ha with ha
    subst ha
    exact (Array.getElem?_eq_some_iff.1 hg).1
theorem el_str : ElemT Tryd.prog 58 9 1 := elemT_of (b := 16) (z := .string ⟨#[]⟩) Tryd.underlying58 (by kernel_rfl) (by omega) rfl (by omega)
theorem join_is (sep : UInt8) : ∀ ws : List Txt, Lib.join ws [sep] = tJoin sep ws
  | [] => rfl
  | [x] => by rw [Lib.join_one, tJoin]
  | x :: y :: l => by
    have ih := join_is sep (y :: l)
    rw [Lib.join_cons] at ih ⊢
    rw [tJoin, ← ih]
    simp [Lib.joinTail]
theorem add_st {a b c : ByteArray} (h : a ++ b = c) (hl : a.size + b.size ≤ 140737488355328) (w : World) : (Op.stringOp .add a b).run Tryd.prog w = .ok (.string c) w := by
  rw [run_string_add_sum (P := Tryd.prog) w _ _ (by omega), h]
theorem join_any (ws : List Txt) (sep : UInt8) (A : Option Addr) (j c : Nat) (w : World) {base : Nat} (hown : w.ownsRow base 9 1 (.slice A j c) j (ws.map fun x => Value.string (stB x))) (hne : ws ≠ []) (hlen : (tJoin sep ws).length ≤ 1000000000) (hw : ws.length ≤ 1000000000) :
    Calls Tryd.prog 31 #[.slice A j c, .string ⟨#[sep]⟩] w fun e w' => e = .returned (.string (stB (tJoin sep ws))) ∧ Keeps w w' [] := by
  have hj : ws.length = j := by have := hown.1; simpa using this
  have hpos : 0 < j := by rw [← hj]; exact List.length_pos_iff.2 hne
  obtain ⟨g, hAg⟩ : ∃ g, A = some ⟨g, 0, none⟩ := by
    rcases hown.2 with ⟨h2, h3⟩ | ⟨g, cap, cur, h2, _⟩
    · omega
    · injection h2 with h2
      exact ⟨g, h2⟩
  subst hAg
  have hrd := Rd.of_own hown
  have hroom := own_room6 hown
  have hjn := Tryd.strings_Join g 0 c (ws.map stB) ⟨#[sep]⟩ w (fun t x hx => by
    obtain ⟨b, off, v, e, _, hc, hv⟩ := hrd t (by rw [List.length_map]; have := (List.getElem?_eq_some_iff.1 hx).1; simpa using this)
    injection e with e
    injection e with e1 e2
    subst e1 e2
    rw [hc, ← hv]
    simp only [List.getElem?_map] at hx ⊢
    cases h9 : ws[t]? with
    | none => rw [h9] at hx; cases hx
    | some z => rw [h9] at hx; simp at hx ⊢; exact hx) (hroom.2 _ rfl) (by rw [List.length_map]; omega) (by rw [List.length_map]; omega) (by
    have : (ws.map stB).map (·.data.toList) = ws := by simp [List.map_map, Function.comp_def, stB_list]
    rw [this]
    show (Lib.join ws [sep]).length ≤ _
    rw [join_is]
    omega)
  rw [List.length_map, hj] at hjn
  have hjt : (⟨(Lib.join ((ws.map stB).map (·.data.toList)) (ByteArray.mk #[sep]).data.toList).toArray⟩ : ByteArray) = stB (tJoin sep ws) := by
    have : (ws.map stB).map (·.data.toList) = ws := by simp [List.map_map, Function.comp_def, stB_list]
    rw [this, ← join_is]
    rfl
  rw [hjt] at hjn
  exact hjn.mono fun e w' h => ⟨h.1, Keeps.nil_of h.2⟩

set_option maxRecDepth 100000 in
set_option maxHeartbeats 3200000 in
theorem text_any (t : Tm) : ∀ (v : TV) (w : World), Tr w (fun _ => True) t v → tRight t = true → tSize t ≤ 10000 → Tab w → Calls Tryd.prog 15 #[tvV v] w fun e w' => e = .returned (.string (stB (tText t))) ∧ Keeps w w' [] := by
  induction t using Tm.ind_ with
  | h k n s l ih =>
    intro v w ht hrt hsz htab
    have htl := tText_few _ hrt
    have hrt0 := hrt
    cases ht with
    | mk _ _ _ _ A c vs hl hR hS hc hz hk =>
    rw [tRight, Bool.and_eq_true] at hrt
    obtain ⟨hall, hrt⟩ := hrt
    have HRt : Hid (∀ a ∈ l, tRight a = true) := (tRights_all l).1 hall
    have HSz : Hid (∀ a ∈ l, tSize a ≤ 10000) := fun a ha => by have := tSizes_mem ha; rw [tSize] at hsz; omega
    have HT : Hid (Trs w (fun _ => True) l vs) := ⟨hl, hk⟩
    have HR := Lib.hid hR
    have HI := Lib.hid ih
    have HTab := Lib.hid htab
    obtain ⟨m, hm⟩ : ∃ m, l.length = m := ⟨_, rfl⟩
    have HM := Lib.hid hm
    have hmb : m ≤ 10000 := by have := tSizes_len l; rw [tSize] at hsz; omega
    have HTL : Hid ((tText (.mk k n s l)).length ≤ 440000) := by show _ ≤ _; omega
    clear hl hR hS hc hz hk ih hall htab htl hsz hrt0
    unfold tvV
    rw [hm] at hrt
    simp only [hm]
    clear hm
    have HB0 : Hid (Blk (w.alloc (.cells #[.int .i64 k, .int .i64 n, .string s, .slice A m c] 29)) w.heap.size 29 #[.int .i64 k, .int .i64 n, .string s, .slice A m c]) := Blk.new _ _ _
    have HK0 : Hid (Keeps w (w.alloc (.cells #[.int .i64 k, .int .i64 n, .string s, .slice A m c] 29)) []) := (Keeps.refl w []).alloc _
    have HRT := Lib.hid hrt
    clear hrt
    go_enter Tryd.func15, Tryd.ntmps15
    go_wp2_with fail
    go_loopw [3, 9] (fun x i wr => ∃ j : Nat, j ≤ m ∧ i = .int .i64 j ∧ ∃ A2 c2, x = .slice A2 j c2 ∧ wr.ownsRow w.heap.size 9 1 (.slice A2 j c2) j (((l.take j).map tText).map fun x => Value.string (stB x)) ∧ Blk wr w.heap.size 29 #[.int .i64 k, .int .i64 n, .string s, .slice A m c] ∧ Keeps w wr []) (fun _ i _ => m - (intOf i).toNat)
    case atStart => exact ⟨0, Nat.zero_le _, rfl, none, 0, rfl, World.ownsRow_nil _ _ _ _, HB0.out, HK0.out⟩
    case round =>
      clear HB0 HK0
      obtain ⟨j, hj, rfl, A2, c2, rfl, hown, hb, hk⟩ := hrel
      have HO := Lib.hid hown
      have HB := Lib.hid hb
      have HK := Lib.hid hk
      clear hown hb hk
      by_cases hlt : j < m
      · obtain ⟨a, hx⟩ := at_of HM.out hlt
        have HX := Lib.hid hx
        have ha := List.mem_of_getElem? hx
        obtain ⟨v', b, off, _, htr, rfl, hb, p0, p1, p2, p3⟩ := (HT.out.keep HK.out).get (HR.out.keep HK.out) hx
        have hca := HI.out a ha v' _ (htr.keep ((Keeps.refl wr []).alloc (.cells #[.int .i64 v'.k, .int .i64 v'.n, .string v'.s, .slice v'.A v'.len v'.c] 29))) (HRt.out a ha) (HSz.out a ha) (HTab.out.keep (HK.out.alloc _))
        unfold tvV at hca
        have HC := Lib.hid hca
        clear hca htr hx ha
        have b0 : (0 : Int) ≤ (j : Int) := Int.natCast_nonneg _
        have b1 : (j : Int) < (m : Int) := by omega
        go_wp2_with fail
        refine HC.out.mono ?_
        rintro e w4 ⟨rfl, k4⟩
        have K5 := (((Keeps.refl wr []).alloc (.cells #[.int .i64 v'.k, .int .i64 v'.n, .string v'.s, .slice v'.A v'.len v'.c] 29)).trans k4).alloc (.cells #[.string (stB (tText a))] 9)
        go_wp2_with (at_builtin; refine wpList_app _ el_str rfl (.tmp 13) (.tmp 16) rfl w.heap.size A2 j c2 _ rfl (own_keep0 HO.out K5) (some ⟨w4.heap.size, 0, none⟩) 1 1 [.string (stB (tText a))] rfl (Rd.one w4 _ [.string (stB (tText a))]) rfl (by simp) (by simp [Value.oneCell']) (by omega) (by simp; have := HK.out.size; have := k4.size; simp at this; omega) ?_; intro A' c' w9 hown hgrow hat; have ho4 := own_keep0 HO.out K5; have HB9 := Lib.hid (blk_far (HB.out.keep K5 (by simp)) ho4 (by decide) hgrow); have HK9 := Lib.hid ((HK.out.trans K5).app ho4 (Nat.le_refl _) hgrow))
        go_roundw
        case rel =>
          refine ⟨j + 1, by omega, by go_num, A', c', rfl, ?_, HB9.out, HK9.out⟩
          rw [List.take_add_one, HX.out]
          simpa using hown
        case measure => simp [intOf]; omega
      · obtain rfl : m = j := by omega
        have htk : (l.take m).map tText = tTexts l := by rw [← HM.out, List.take_length, tTexts_map]
        have ho := HO.out
        rw [htk] at ho
        have q0 := HB.out.cell 0
        have q1 := HB.out.cell 1
        have q2 := HB.out.cell 2
        clear hlt hj
        have hrt := HRT.out
        by_cases h0 : k = 0
        · subst h0
          rw [if_pos rfl] at hrt
          simp only [Bool.and_eq_true, decide_eq_true_eq] at hrt
          obtain ⟨⟨⟨g0, g9⟩, _⟩, _⟩ := hrt
          obtain ⟨nn, rfl⟩ := Int.eq_ofNat_of_zero_le g0
          have HV : Hid (tText (.mk 0 nn s l) = 88 :: Lib.decDigits nn) := by show _ = _; rw [tText, if_pos rfl, Int.toNat_natCast]
          have HI2 := Lib.hid (itoa_any nn (by omega) wr (HTab.out.keep HK.out))
          have hadd := add_st (a := ⟨#[88]⟩) (b := stB (Lib.decDigits nn)) (c := stB (88 :: Lib.decDigits nn)) (stB_app [88] _) (by rw [stB_size]; have := digits_len4 nn (by omega); have : (⟨#[88]⟩ : ByteArray).size = 1 := rfl; omega)
          clear HO ho
          go_wp2_with fail
          refine HI2.out.mono ?_
          rintro e w5 ⟨rfl, k5⟩
          go_wp2_with fail
          go_ret
          exact ⟨by rw [HV.out]; rfl, HK.out.trans k5⟩
        rw [if_neg h0] at hrt
        have e0 : (k == 0) = false := by simpa using h0
        by_cases h1 : k = 1
        · subst h1
          have HV : Hid (tText (.mk 1 n s l) = s.data.toList) := by show _ = _; rw [tText, if_neg (by omega), if_pos rfl]
          clear HO ho hrt
          go_wp2_with fail
          go_ret
          exact ⟨by rw [HV.out, stB_of]; rfl, HK.out⟩
        rw [if_neg h1] at hrt
        have e1 : (k == 1) = false := by simpa using h1
        have hjl : ∀ c : UInt8, l ≠ [] := fun c => by
          rintro rfl
          have : m = 0 := HM.out.symm
          subst this
          split at hrt
          · simp at hrt
          · split at hrt
            · simp at hrt
            · cases hrt
        have hne : tTexts l ≠ [] := by rw [tTexts_map]; simpa using hjl 0
        have hwl : (tTexts l).length ≤ 1000000000 := by rw [tTexts_map, List.length_map, HM.out]; omega
        by_cases h3 : k = 3
        · subst h3
          have hv : tText (.mk 3 n s l) = 91 :: (tJoin 124 (tTexts l) ++ [93]) := by rw [tText, if_neg (by omega), if_neg (by omega), if_pos rfl]
          have hln := HTL.out
          rw [hv] at hln
          simp only [List.length_cons, List.length_append, List.length_nil] at hln
          have HV := Lib.hid hv
          have HJ := Lib.hid (join_any (tTexts l) 124 A2 m c2 wr ho hne (by omega) hwl)
          have z1 : (⟨#[91]⟩ : ByteArray).size = 1 := rfl
          have z2 : (⟨#[93]⟩ : ByteArray).size = 1 := rfl
          have hadd := add_st (a := ⟨#[91]⟩) (b := stB (tJoin 124 (tTexts l))) (c := stB (91 :: tJoin 124 (tTexts l))) (stB_app [91] _) (by rw [stB_size]; omega)
          have hadd2 := add_st (a := stB (91 :: tJoin 124 (tTexts l))) (b := ⟨#[93]⟩) (c := stB (91 :: (tJoin 124 (tTexts l) ++ [93]))) (by have := stB_app (91 :: tJoin 124 (tTexts l)) [93]; rw [List.cons_append] at this; exact this) (by rw [stB_size, List.length_cons]; omega)
          clear HO ho hrt hv hne hwl hjl
          go_wp2_with fail
          refine HJ.out.mono ?_
          rintro e w5 ⟨rfl, k5⟩
          go_wp2_with fail
          go_ret
          exact ⟨by rw [HV.out]; rfl, HK.out.trans k5⟩
        · have e3 : (k == 3) = false := by simpa using h3
          have hv : tText (.mk k n s l) = s.data.toList ++ 40 :: (tJoin 44 (tTexts l) ++ [41]) := by rw [tText, if_neg h0, if_neg h1, if_neg h3]
          have hln := HTL.out
          rw [hv] at hln
          simp only [List.length_append, List.length_cons, List.length_nil] at hln
          have hsz : s.data.toList.length = s.size := rfl
          have HV := Lib.hid hv
          have HJ := Lib.hid (fun w' (kk : Keeps wr w' []) => join_any (tTexts l) 44 A2 m c2 w' (own_keep0 ho kk) hne (by omega) hwl)
          have z1 : (⟨#[40]⟩ : ByteArray).size = 1 := rfl
          have z2 : (⟨#[41]⟩ : ByteArray).size = 1 := rfl
          have hadd := add_st (a := s) (b := ⟨#[40]⟩) (c := stB (s.data.toList ++ [40])) (by have := stB_app s.data.toList [40]; rw [stB_of] at this; exact this) (by omega)
          have hadd2 := add_st (a := stB (s.data.toList ++ [40])) (b := stB (tJoin 44 (tTexts l))) (c := stB (s.data.toList ++ 40 :: tJoin 44 (tTexts l))) (by rw [stB_app]; simp) (by rw [stB_size, stB_size, List.length_append, List.length_singleton]; omega)
          have hadd3 := add_st (a := stB (s.data.toList ++ 40 :: tJoin 44 (tTexts l))) (b := ⟨#[41]⟩) (c := stB (s.data.toList ++ 40 :: (tJoin 44 (tTexts l) ++ [41]))) (by have := stB_app (s.data.toList ++ 40 :: tJoin 44 (tTexts l)) [41]; rw [List.append_assoc, List.cons_append] at this; exact this) (by rw [stB_size, List.length_append, List.length_cons]; omega)
          have HW : Hid (∀ W', Keeps wr W' [] → W'.cell? ⟨w.heap.size, 2, none⟩ = some (.string s)) := fun W' kk => (HB.out.keep kk (by simp)).cell 2
          clear HO ho hrt hv hne hwl hjl
          go_upto_region 14 with fail
          clear q0 q1 q2
          refine wp_region_tx (fun W' => W'.cell? ⟨w.heap.size, 2, none⟩ = some (.string s)) [(0, true), (1, true), (2, true), (3, true), (4, false), (5, false), (6, false), (7, false)] (by kernel_rfl) (by kernel_rfl) (HW.out _ ((Keeps.refl _ _).drew)) (fun hHeld => ?_)
          (repeat (first | (refine wpTx_take (v := ?_) rfl (by assumption) ?_ (by rfl) ?_; rotate_left; (focus (intro w' hSw; (try dsimp only at hSw); go_simp; (try with_reducible rfl); done)); simp only [Act.put, List.setIfInBounds_toArray, List.set_cons_zero, List.set_cons_succ]) | (refine wpTx_skip rfl (by assumption) (by rfl) ?_; simp only [Act.put, List.setIfInBounds_toArray, List.set_cons_zero, List.set_cons_succ])))
          refine wpTx_go rfl (fun K hK => ?_)
          go_simp
          refine (HJ.out _ (Keeps.refl _ _).drew).mono ?_
          rintro e w5 ⟨rfl, k5⟩
          refine hK.out _ _ ?_ ?_
          · exact HW.out _ ((Keeps.refl _ []).drew.trans k5)
          (clear hHeld; intro hHeld; clear hK K)
          refine wpTx_go rfl (fun K hK => ?_)
          go_simp
          refine hK.out _ _ ?_ ?_
          · exact HW.out _ ((Keeps.refl _ []).drew.trans k5)
          (clear hHeld; intro hHeld; clear hK K)
          refine wpTx_go rfl (fun K hK => ?_)
          go_simp
          refine hK.out _ _ ?_ ?_
          · exact HW.out _ ((Keeps.refl _ []).drew.trans k5)
          (clear hHeld; intro hHeld; clear hK K)
          refine wpTx_last rfl (fun K hK => ?_)
          go_simp
          refine hK.out _ _ (NoPanic.normal ?_); clear hK K; (try simp only [Act.put, List.setIfInBounds_toArray, List.set_cons_zero, List.set_cons_succ])
          go_wp2_with fail
          go_ret
          exact ⟨by rw [HV.out]; rfl, HK.out.drew.trans k5⟩
end Go.Proofs.YtjbomjnkjcafcaaDoor
