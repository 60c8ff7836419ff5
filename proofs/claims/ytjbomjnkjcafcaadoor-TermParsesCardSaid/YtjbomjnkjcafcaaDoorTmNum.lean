/- The program's reader: a variable's number. -/
import Derived.Test.YtjbomjnkjcafcaaDoorTmRd
namespace Go.Proofs.YtjbomjnkjcafcaaDoor
open Go.RowKit

theorem atoi_pos {ds : Txt} (hd : ∀ c ∈ ds, isDig c = true) {v : Int} (h : Lib.atoiAll ds = .ok v) : 0 ≤ v ∧ v < 9223372036854775808 := by
  cases ds with
  | nil => simp [Lib.atoiAll] at h
  | cons c r =>
    have hc := hd c (by simp)
    simp only [isDig, Bool.and_eq_true, decide_eq_true_eq] at hc
    rw [Lib.atoiAll_plain c r (by omega) (by omega)] at h
    cases hp : Lib.parseMag (c :: r) with
    | ok u =>
      rw [hp] at h
      simp only [Lib.signless] at h
      split at h
      · cases h
      · cases h; omega
    | _ => rw [hp] at h; simp [Lib.signless] at h
theorem numP_some {l : Txt} {v : Nat} (h : Lib.atoiAll (l.takeWhile isDig) = .ok (v : Int)) : numP l = if Lib.decDigits v = l.takeWhile isDig then some ((v : Int), l.dropWhile isDig) else none := by
  unfold numP
  rw [h]
  by_cases hd : Lib.decDigits v = l.takeWhile isDig
  · simp [hd]
  · simp [hd]
theorem numP_none {l : Txt} (h : atoiV (l.takeWhile isDig) = none) : numP l = none := by
  unfold atoiV at h
  unfold numP
  split at h
  · cases h
  · rename_i hn
    split
    · rename_i v hv
      exact absurd hv (hn v)
    · rfl
def NumIs (w0 w' : World) (rb : Nat) (n : Int) : Option (Int × Txt) → Prop
  | some x => n = x.1 ∧ RSt w0 w' rb x.2 false
  | none => ∃ rest, RSt w0 w' rb rest true
def NumDone (w0 w : World) (rb : Nat) (l : Txt) (e : Ending) (w' : World) : Prop := ∃ n : Int, e = .returned (.int .i64 n) ∧ Keeps w w' [rb] ∧ NumIs w0 w' rb n (numP l)

set_option maxHeartbeats 1600000 in
theorem number_any (w0 w : World) (rb : Nat) (l : Txt) (h : RSt w0 w rb l false) : Calls Tryd.prog 45 #[.pointer (some ⟨rb, 0, none⟩)] w (NumDone w0 w rb l) := by
  have HW := Lib.hid (whileDig_any w0 w rb l false h)
  have hfew := h.few
  have hdl : (l.takeWhile isDig).length ≤ 10000 := Nat.le_trans (List.takeWhile_sublist _).length_le hfew
  have HD := Lib.hid (take_dig l)
  obtain ⟨ds, hds⟩ : ∃ ds, l.takeWhile isDig = ds := ⟨_, rfl⟩
  have HDS := Lib.hid hds
  rw [hds] at hdl HD HW
  clear h hds hfew
  unfold NumDone
  go_enter Tryd.func45, Tryd.ntmps45
  go_wp2_with fail
  refine HW.out.mono ?_
  rintro e w1 ⟨rfl, h1, k1⟩
  have H1 := Lib.hid h1
  have K1 := Lib.hid k1
  have hat := atoi_any (stB ds) (by rw [stB_size]; omega) w1 h1.now
  rw [stB_list] at hat
  clear h1 k1
  cases hv : atoiV ds with
  | none =>
    rw [hv] at hat
    have HA := Lib.hid hat
    have HN : Hid (numP l = none) := numP_none (by rw [HDS.out]; exact hv)
    clear hat hv
    go_wp2_with fail
    refine HA.out.mono ?_
    rintro e w2 ⟨k2, n, t, p, rfl⟩
    have H2 := Lib.hid (H1.out.keep k2)
    have q1 := H2.out.blk.cell 1
    have f1 := H2.out.blk.frozen 1
    have K2 := Lib.hid (K1.out.trans (k2.to_ [rb]))
    clear k2
    go_wp2_with fail
    go_ret
    have hp := H2.out.put (l' := l.dropWhile isDig) (bad' := true) (w' := w2.setCell ⟨rb, 1, none⟩ (.bool true)) (by have := H2.out.blk.set_ 1 (.bool true); simpa using this) ((Keeps.refl w2 [rb]).setCell (.inl (by simp)) _) H2.out.few
    exact ⟨n, rfl, K2.out.trans hp.2, by rw [HN.out]; exact ⟨_, hp.1⟩⟩
  | some v =>
    rw [hv] at hat
    have hok : Lib.atoiAll ds = .ok v := by
      unfold atoiV at hv
      split at hv
      · rename_i u hu; cases hv; exact hu
      · cases hv
    have hpos := atoi_pos HD.out hok
    obtain ⟨vn, rfl⟩ := Int.eq_ofNat_of_zero_le hpos.1
    have HA := Lib.hid hat
    have HN : Hid (numP l = if Lib.decDigits vn = ds then some ((vn : Int), l.dropWhile isDig) else none) := by
      show _ = _
      rw [numP_some (v := vn) (by rw [HDS.out]; exact hok), HDS.out]
    clear hat hv hok
    go_wp2_with fail
    refine HA.out.mono ?_
    rintro e w2 ⟨k2, rfl⟩
    have H2 := Lib.hid (H1.out.keep k2)
    have q1 := H2.out.blk.cell 1
    have K2 := Lib.hid (K1.out.trans (k2.to_ [rb]))
    have HI := Lib.hid (itoa_any vn (by omega) w2 H2.out.now.tab)
    clear k2
    by_cases he : Lib.decDigits vn = ds
    · have hb : ((stB (Lib.decDigits vn)).toList == (stB ds).toList) = true := by rw [he]; simp
      rw [if_pos he] at HN
      clear he
      go_wp2_with fail
      refine HI.out.mono ?_
      rintro e w3 ⟨rfl, k3⟩
      have H3 := Lib.hid (H2.out.keep k3)
      have f1 := H3.out.blk.frozen 1
      have r1 := H3.out.blk.cell 1
      have K3 := Lib.hid (K2.out.trans (k3.to_ [rb]))
      clear k3 q1
      go_wp2_with fail
      go_ret
      have hp := H3.out.put (l' := l.dropWhile isDig) (bad' := false) (w' := w3.setCell ⟨rb, 1, none⟩ (.bool false)) (by have := H3.out.blk.set_ 1 (.bool false); simpa using this) ((Keeps.refl w3 [rb]).setCell (.inl (by simp)) _) H3.out.few
      exact ⟨vn, rfl, K3.out.trans hp.2, by rw [HN.out]; exact ⟨rfl, hp.1⟩⟩
    · have hb : ((stB (Lib.decDigits vn)).toList == (stB ds).toList) = false := by
        cases hq : ((stB (Lib.decDigits vn)).toList == (stB ds).toList) with
        | false => rfl
        | true => exact absurd (by have := bytes_eq.1 hq; rwa [stB_list, stB_list] at this) he
      rw [if_neg he] at HN
      clear he
      go_wp2_with fail
      refine HI.out.mono ?_
      rintro e w3 ⟨rfl, k3⟩
      have H3 := Lib.hid (H2.out.keep k3)
      have f1 := H3.out.blk.frozen 1
      have r1 := H3.out.blk.cell 1
      have K3 := Lib.hid (K2.out.trans (k3.to_ [rb]))
      clear k3 q1
      go_wp2_with fail
      go_ret
      have hp := H3.out.put (l' := l.dropWhile isDig) (bad' := true) (w' := w3.setCell ⟨rb, 1, none⟩ (.bool true)) (by have := H3.out.blk.set_ 1 (.bool true); simpa using this) ((Keeps.refl w3 [rb]).setCell (.inl (by simp)) _) H3.out.few
      exact ⟨vn, rfl, K3.out.trans hp.2, by rw [HN.out]; exact ⟨_, hp.1⟩⟩
end Go.Proofs.YtjbomjnkjcafcaaDoor
