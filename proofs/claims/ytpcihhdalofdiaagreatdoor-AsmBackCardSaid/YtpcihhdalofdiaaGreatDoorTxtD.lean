/- Instructions in words: what a word says to the program. -/
import Derived.Test.YtpcihhdalofdiaaGreatDoorTxtC
import Derived.Test.YtpcihhdalofdiaaGreatDoorShelf
import Derived.Shelf.Strings.SlTrimAscii
namespace Go.Proofs.YtpcihhdalofdiaaGreatDoor
open Go.RowKit

/-- What the library's own variables hold. -/
structure St (w : World) : Prop where
  tab : Tab w
  most : ∃ m, w.cell? ⟨1, 0, none⟩ = some (.int .i64 m)
  syn : ∃ ev, w.cell? ⟨6, 0, none⟩ = some ev ∧ (ev = .nilIface ∨ ∃ te pe, ev = .iface te pe)
  rng : ∃ ev, w.cell? ⟨7, 0, none⟩ = some ev ∧ (ev = .nilIface ∨ ∃ te pe, ev = .iface te pe)
theorem St.keep {w w' : World} (h : St w) (k : Keeps w w' []) : St w' := by
  obtain ⟨ht, ⟨m, h0⟩, ⟨e1, h1, h1'⟩, ⟨e2, h2, h2'⟩⟩ := h
  exact ⟨ht.keep k, ⟨m, (k.cell (lt_cell6 h0) (by simp)).trans h0⟩, ⟨e1, (k.cell (lt_cell6 h1) (by simp)).trans h1, h1'⟩, ⟨e2, (k.cell (lt_cell6 h2) (by simp)).trans h2, h2'⟩⟩
theorem prefix_head (l : List UInt8) : Lib.hasPrefix l [89] = decide (l.head? = some 89) := by
  cases l with
  | nil => rfl
  | cons c l =>
    show ([89] : List UInt8).isPrefixOf (c :: l) = _
    by_cases h : c = 89
    · subst h; simp [List.isPrefixOf]
    · simp [List.isPrefixOf, h, Ne.symm h]
def atoiV : List UInt8 → Option Int := fun l => match Lib.atoiAll l with
  | .ok v => some v
  | _ => none
/-- strconv.Atoi at every text: the number and no error; or an error. -/
theorem atoi_any (s : ByteArray) (hl : s.size ≤ 281474976710656) (w : World) (h : St w) :
    Calls Tryz.prog 129 #[.string s] w fun e w' => Keeps w w' [] ∧ (match atoiV s.data.toList with
      | some v => e = .returned (.tuple #[.int .i64 v, .nilIface])
      | none => ∃ n t p, e = .returned (.tuple #[.int .i64 n, .iface t p])) := by
  unfold atoiV
  cases ha : Lib.atoiAll s.data.toList with
  | ok v =>
    refine (Tryz.strconv_Atoi_ok s (by omega) v ha w).mono ?_
    rintro e w' ⟨rfl, hw⟩
    refine ⟨?_, rfl⟩
    rcases hw with rfl | ⟨t, rfl⟩
    · exact Keeps.refl _ _
    · exact Keeps.nil_of (Lib.bytesWorld_below _ _ _)
  | range =>
    obtain ⟨ev, h1, h2⟩ := h.rng
    refine (Tryz.strconv_Atoi_range s hl ha ev w h1 h2).mono ?_
    rintro e w' ⟨N, rfl, _, _, hb⟩
    exact ⟨Keeps.nil_of hb, _, _, _, rfl⟩
  | _ =>
    obtain ⟨ev, h1, h2⟩ := h.syn
    refine (Tryz.strconv_Atoi_syntax s hl ha ev w h1 h2).mono ?_
    rintro e w' ⟨N, rfl, _, _, hb⟩
    exact ⟨Keeps.nil_of hb, _, _, _, rfl⟩
theorem trim_any (s : ByteArray) (w : World) : Calls Tryz.prog 159 #[.string s, .string ⟨#[88, 89]⟩] w fun e w' => e = .returned (.string (stB (Lib.trimLeftS s.data.toList [88, 89]))) ∧ Keeps w w' [] :=
  (Any.strings_TrimLeft_laid Tryz.lays161 (by kernel_rfl) s ⟨#[88, 89]⟩ w (by decide) (ascii_of_all (by decide))).mono fun _ _ ⟨h1, h2⟩ => ⟨h1, Keeps.nil_of h2⟩
theorem trim_len (l : List UInt8) (c : List UInt8) : (Lib.trimLeftS l c).length ≤ l.length := by
  rw [Lib.trimLeftS]
  exact (List.dropWhile_sublist _).length_le
theorem opP_dash {k : Nat} {w : Txt} (h : w = [45]) : opP k w = 65535 := if_pos h
theorem opP_none {k : Nat} {w : Txt} (h : w ≠ [45]) (ha : atoiV (Lib.trimLeftS w [88, 89]) = none) : opP k w = -1 := by
  unfold atoiV at ha
  rw [opP, if_neg h]
  cases he : Lib.atoiAll (Lib.trimLeftS w [88, 89]) with
  | ok v => rw [he] at ha; cases ha
  | range => rfl
  | _ => rfl
theorem opP_some {k : Nat} {w : Txt} {v : Int} (h : w ≠ [45]) (ha : atoiV (Lib.trimLeftS w [88, 89]) = some v) : opP k w = if k = 1 ∧ w.head? = some 89 then IntKind.i64.wrap (v + 16) else v := by
  unfold atoiV at ha
  rw [opP, if_neg h]
  cases he : Lib.atoiAll (Lib.trimLeftS w [88, 89]) with
  | ok v' => rw [he] at ha; injection ha with ha; subst ha; rfl
  | range => rw [he] at ha; cases ha
  | _ => rw [he] at ha; cases ha
attribute [local irreducible] opP atoiV
set_option maxHeartbeats 1600000 in
theorem operand_any (k : Nat) (s : ByteArray) (hl : s.size ≤ 281474976710656) (w : World) (h : St w) :
    Calls Tryz.prog 149 #[.int .i64 k, .string s] w fun e w' => e = .returned (.int .i64 (opP k s.data.toList)) ∧ Keeps w w' [] := by
  have HSt := Lib.hid h
  clear h
  have hcl : (s.toList == [45]) = decide (s.data.toList = [45]) := by rw [ByteArray.toList_eq]; by_cases h : s.data.toList = [45] <;> simp [h]
  by_cases h45 : s.data.toList = [45]
  · have d0 : (s.toList == [45]) = true := by rw [hcl]; exact decide_eq_true h45
    have HE := Lib.hid (opP_dash (k := k) h45)
    clear hcl h45
    go_enter Tryz.func149, Tryz.ntmps149
    go_wp2_with fail
    go_ret
    exact ⟨by rw [HE.out]; rfl, Keeps.refl _ _⟩
  have d0 : (s.toList == [45]) = false := by rw [hcl]; exact decide_eq_false h45
  have HT := Lib.hid (trim_any s w)
  have hsz : (stB (Lib.trimLeftS s.data.toList [88, 89])).size ≤ 281474976710656 := by
    rw [stB_size]
    have := trim_len s.data.toList [88, 89]
    have : s.data.toList.length = s.size := rfl
    omega
  have HA : Hid (∀ w', Keeps w w' [] → Calls Tryz.prog 129 #[.string (stB (Lib.trimLeftS s.data.toList [88, 89]))] w' fun e w'' => Keeps w' w'' [] ∧ (match atoiV (Lib.trimLeftS s.data.toList [88, 89]) with
      | some v => e = .returned (.tuple #[.int .i64 v, .nilIface])
      | none => ∃ n t p, e = .returned (.tuple #[.int .i64 n, .iface t p]))) := fun w' k' => by
    have := atoi_any (stB (Lib.trimLeftS s.data.toList [88, 89])) hsz w' (HSt.out.keep k')
    rw [stB_list] at this
    exact this
  cases ha : atoiV (Lib.trimLeftS s.data.toList [88, 89]) with
  | none =>
    have HE := Lib.hid (opP_none (k := k) h45 ha)
    simp only [ha] at HA
    clear ha h45 hcl hsz
    go_enter Tryz.func149, Tryz.ntmps149
    go_wp2_with fail
    refine HT.out.mono ?_
    rintro e w1 ⟨rfl, k1⟩
    have HK := Lib.hid k1
    clear k1
    go_wp2_with fail
    refine (HA.out w1 HK.out).mono ?_
    rintro e w2 ⟨k2, n, t, p, rfl⟩
    have HK2 := Lib.hid (HK.out.trans k2)
    clear k2
    go_wp2_with fail
    go_ret
    exact ⟨by rw [HE.out]; rfl, HK2.out⟩
  | some v =>
    have HB := Lib.hid (opP_some (k := k) h45 ha)
    simp only [ha] at HA
    clear ha h45 hcl hsz
    have HF := Lib.hid (Tryz.strings_HasPrefix s ⟨#[89]⟩)
    have hpf : Lib.hasPrefix s.data.toList [89] = decide (s.data.toList.head? = some 89) := prefix_head _
    by_cases hk1 : k = 1
    · subst hk1
      by_cases hh : s.data.toList.head? = some 89
      · have HE : Hid (opP 1 s.data.toList = wrap64 (v + 16)) := (HB.out.trans (if_pos ⟨rfl, hh⟩)).trans (IntWalk.i64_left _)
        rw [show (ByteArray.mk #[89]).data.toList = [89] from rfl, hpf, decide_eq_true hh] at HF
        clear hh hpf
        go_enter Tryz.func149, Tryz.ntmps149
        go_wp2_with fail
        refine HT.out.mono ?_
        rintro e w1 ⟨rfl, k1⟩
        have HK := Lib.hid k1
        clear k1
        go_wp2_with fail
        refine (HA.out w1 HK.out).mono ?_
        rintro e w2 ⟨k2, rfl⟩
        have HK2 := Lib.hid (HK.out.trans k2)
        clear k2
        go_wp2_with fail
        refine (HF.out w2).mono ?_
        rintro e w3 ⟨rfl, rfl⟩
        go_wp2_with fail
        go_ret
        exact ⟨by rw [HE.out]; rfl, HK2.out⟩
      · have HE : Hid (opP 1 s.data.toList = v) := HB.out.trans (if_neg (fun h => hh h.2))
        rw [show (ByteArray.mk #[89]).data.toList = [89] from rfl, hpf, decide_eq_false hh] at HF
        clear hh hpf
        go_enter Tryz.func149, Tryz.ntmps149
        go_wp2_with fail
        refine HT.out.mono ?_
        rintro e w1 ⟨rfl, k1⟩
        have HK := Lib.hid k1
        clear k1
        go_wp2_with fail
        refine (HA.out w1 HK.out).mono ?_
        rintro e w2 ⟨k2, rfl⟩
        have HK2 := Lib.hid (HK.out.trans k2)
        clear k2
        go_wp2_with fail
        refine (HF.out w2).mono ?_
        rintro e w3 ⟨rfl, rfl⟩
        go_wp2_with fail
        go_ret
        exact ⟨by rw [HE.out]; rfl, HK2.out⟩
    · have d1 : ((k : Int) == 1) = false := by simp; omega
      have HE : Hid (opP k s.data.toList = v) := HB.out.trans (if_neg (fun h => hk1 h.1))
      clear hpf hk1
      go_enter Tryz.func149, Tryz.ntmps149
      go_wp2_with fail
      refine HT.out.mono ?_
      rintro e w1 ⟨rfl, k1⟩
      have HK := Lib.hid k1
      clear k1
      go_wp2_with fail
      refine (HA.out w1 HK.out).mono ?_
      rintro e w2 ⟨k2, rfl⟩
      have HK2 := Lib.hid (HK.out.trans k2)
      clear k2
      go_wp2_with fail
      go_ret
      exact ⟨by rw [HE.out]; rfl, HK2.out⟩
end Go.Proofs.YtpcihhdalofdiaaGreatDoor
