/- The program's Undo. Printed by gen_hpundob.py. -/
import Derived.Test.YtnonfmaehfmigaaGreatDoorJU03
import Derived.Test.YtnonfmaehfmigaaGreatDoorText4
import Derived.Test.YtnonfmaehfmigaaGreatDoorCell
import Derived.Test.YtnonfmaehfmigaaGreatDoorTmText
import Derived.Test.YtnonfmaehfmigaaGreatDoorNum
import Derived.Deep.RegionHeld3
import Derived.Deep.DrawnRows
import Derived.Deep.RegionWith
import Derived.Lib.SmallJoins
import Derived.Test.YtnonfmaehfmigaaGreatDoorTmTermB
import Derived.Test.YtnonfmaehfmigaaGreatDoorTmRightP
import Derived.Test.YtnonfmaehfmigaaGreatDoorTmTakeN1
import Derived.Test.YtnonfmaehfmigaaGreatDoorTmTakeN2
import Derived.Test.YtnonfmaehfmigaaGreatDoorTmTakeN3
import Derived.Test.YtnonfmaehfmigaaGreatDoorTmTakeN4
import Derived.Test.YtnonfmaehfmigaaGreatDoorTmTo
import Derived.Test.YtnonfmaehfmigaaGreatDoorMgRenLaw
import Derived.Test.YtnonfmaehfmigaaGreatDoorTmSame
import Derived.Test.YtnonfmaehfmigaaGreatDoorText
import Derived.Test.YtnonfmaehfmigaaGreatDoorTmRVarsB
import Derived.Test.YtnonfmaehfmigaaGreatDoorTmFixB
import Derived.Test.YtnonfmaehfmigaaGreatDoorTmVars
namespace Go.Proofs.YtnonfmaehfmigaaGreatDoor
open Go.RowKit Go.Maps
section
variable {w : World} {base hb ag ah vb : Nat} {AA FA TA MA : Option Addr} {ca nt ct nm cm cf : Nat} {H : PH} {tr : List Int} {mk : List (Int × Int)} {room : Nat}
/-- Cells and variables' places turn. -/
theorem Hm.undone (h : Hm w base hb ag ah vb AA FA TA MA ca nt ct nm cm cf H tr mk room) {w1 w2 : World} {l : List Int} (k : Keeps w w1 [ag, ah]) (ha : Ar w1 base ag ah l room) (k2 : Keeps w1 w2 [vb]) {f : Int → Option Int} (hv : VM w2 vb l.length f) : Hm w2 base hb ag ah vb AA FA TA MA ca nt ct nm cm cf { H with cells := l, vars := f } tr mk room := by
  have ap := h.apart
  have a1 := ap.a1
  have hx : ∀ b ∈ [ag, ah], b ∉ ownL (.slice AA 0 0) ∧ b ∉ ownL (.slice FA 0 0) ∧ b ∉ ownL (.slice TA 0 0) ∧ b ∉ ownL (.slice MA 0 0) := fun b hb => ap.a2 b (by simp only [List.mem_cons, List.not_mem_nil, or_false] at hb ⊢; rcases hb with rfl | rfl <;> simp)
  have hy : ∀ b ∈ [vb], b ∉ ownL (.slice AA 0 0) ∧ b ∉ ownL (.slice FA 0 0) ∧ b ∉ ownL (.slice TA 0 0) ∧ b ∉ ownL (.slice MA 0 0) := fun b hb => ap.a2 b (by simp only [List.mem_cons, List.not_mem_nil, or_false] at hb ⊢; subst hb; simp)
  have b1 := (h.blk.keep k (by simp only [List.mem_cons, List.not_mem_nil, or_false, not_or]; exact ⟨a1.1, a1.2.1⟩)).keep k2 (by simp only [List.mem_cons, List.not_mem_nil, or_false]; exact Ne.symm a1.2.2.1)
  have r1 := ha.keep k2 (by simp only [List.mem_cons, List.not_mem_nil, or_false]; exact Ne.symm a1.2.2.2.1) (by simp only [List.mem_cons, List.not_mem_nil, or_false]; exact Ne.symm a1.2.2.2.2.1)
  exact ⟨b1, r1, own_keepZ (own_keepZ h.atoms k (fun b hb => (hx b hb).1)) k2 (fun b hb => (hy b hb).1), own_keepZ (own_keepZ h.funs k (fun b hb => (hx b hb).2.1)) k2 (fun b hb => (hy b hb).2.1), hv, own_keepZ (own_keepZ h.trail k (fun b hb => (hx b hb).2.2.1)) k2 (fun b hb => (hy b hb).2.2.1), own_keepZ (own_keepZ h.marks k (fun b hb => (hx b hb).2.2.2)) k2 (fun b hb => (hy b hb).2.2.2), h.low, h.few⟩
end
theorem own_takeA {w : World} {base n c : Nat} {e : TypeId} {A : Option Addr} {xs : List Value} (h : w.ownsRow base e 1 (.slice A n c) n xs) (m : Nat) (hm : m ≤ n) : w.ownsRow base e 1 (.slice A m c) m (xs.take m) := by
  have h1 := h.1
  rcases h.2 with ⟨h2, h3⟩ | ⟨g, cap, cur, h2, _⟩
  · injection h2 with h4 _ h5
    subst h4 h5 h3
    obtain rfl : m = 0 := by omega
    rw [List.take_zero]
    exact World.ownsRow_nil _ _ _ _
  · injection h2 with h4
    subst h4
    have h' := h
    rw [← List.take_append_drop m xs] at h'
    exact own_shortP h' (by rw [List.length_take]; omega) hm (by simp)
theorem tail_run (TA : Option Addr) (n c t : Nat) (ht : t ≤ n) : ∃ TB, (∀ W, (Instr.slice 50 (.slice TA n c) (some (.int .i64 t)) none none).run Tryz.prog W = .ok (.slice TB (n - t) (c - t)) W) ∧ ∀ g, TA = some ⟨g, 0, none⟩ → n ≤ c → t < n → TB = some ⟨g, t, none⟩ := by
  refine ⟨if c = t then TA else TA.map (·.add (t * 1)), fun W => ?_, fun g hA hc hn => ?_⟩
  · have hz : (Go.sizeOf (Tryz.prog.elem 50)).run Tryz.prog W = .ok 1 W := by simp [go_sem]
    rw [run_slice_l (P := Tryz.prog) W 50 TA n c (by kernel_rfl) .i64 t (by omega) (by omega), hz]
    simp only [Result.andThen, sliced, Int.toNat_natCast]
  · rw [if_neg (by omega), hA]
    simp [Addr.add]
    intro h
    exact h.symm
theorem head_run (TA : Option Addr) (n c t : Nat) (ht : t ≤ c) : ∀ W, (Instr.slice 50 (.slice TA n c) none (some (.int .i64 t)) none).run Tryz.prog W = .ok (.slice (if c = 0 then TA else TA.map (·.add (0 * 1))) t c) W := fun W => by
  have hz : (Go.sizeOf (Tryz.prog.elem 50)).run Tryz.prog W = .ok 1 W := by simp [go_sem]
  rw [run_slice_h (P := Tryz.prog) W 50 TA n c (by kernel_rfl) .i64 t (by omega) (by omega), hz]
  simp only [Result.andThen, sliced, Int.toNat_natCast, Nat.sub_zero]
theorem head_run0 (TA : Option Addr) (n c t : Nat) (ht : t ≤ c) (hTA : ∀ a, TA = some a → ∃ g, a = ⟨g, 0, none⟩) : ∀ W, (Instr.slice 50 (.slice TA n c) none (some (.int .i64 t)) none).run Tryz.prog W = .ok (.slice TA t c) W := fun W => by
  rw [head_run TA n c t ht W]
  congr 2
  split
  · rfl
  · cases TA with
    | none => rfl
    | some a => obtain ⟨g, rfl⟩ := hTA a rfl; simp [Addr.add]
set_option maxRecDepth 100000 in
set_option maxHeartbeats 6400000 in
theorem hundo_yes {w : World} {base hb : Nat} {L : List Nat} {H : PH} {tr : List Int} {mk0 : List (Int × Int)} {room : Nat} {c t : Nat} (hH : Hp w base hb L H tr (mk0 ++ [((c : Int), (t : Int))]) room) (ht : t ≤ tr.length) (hc : c ≤ H.cells.length) (hpl : ∀ p ∈ tr.drop t, ∃ q : Nat, p = q ∧ q < H.cells.length) (hinj : ∀ n m p, H.vars n = some p → H.vars m = some p → n = m) (hvn : ∀ n p, H.vars n = some p → 0 ≤ p) (hnt : tr.length ≤ 1000000) :
    Calls Tryz.prog 16 #[.pointer (some ⟨hb, 0, none⟩)] w fun e w' => e = .returned (.bool true) ∧ HpD w base hb L (⟨(backL (tr.drop t) H.cells).take c, H.atoms, H.funs, keepV H.vars c⟩, tr.take t) (mk0 ++ [((c : Int), (t : Int))]) room w' := by
  obtain ⟨ag, ah, vb, AA, FA, TA, MA, ca, nt, ct, nm, cm, cf, rfl, hm⟩ := hH
  have htl := hm.tlen
  subst htl
  have hml := hm.mlen
  obtain ⟨m, hmm⟩ : ∃ m, mk0.length = m := ⟨_, rfl⟩
  rw [List.length_append, List.length_singleton, hmm] at hml
  subst hml
  obtain ⟨g, hMA, hcap⟩ := own_atP hm.marks (by omega)
  subst hMA
  have hfew : m + 1 ≤ 9223372036854775807 := by
    rcases hm.marks.2 with ⟨_, h⟩ | ⟨g, cap, cur, h1, h2, h3, h4, h5, _⟩
    · omega
    · unfold maxLen at h5
      omega
  obtain ⟨mb0, moff, e1, hmb, hmf⟩ := (Rd.of_own hm.marks).field mkE_len (l := mk0 ++ [((c : Int), (t : Int))]) (k := m) (x := ((c : Int), (t : Int))) (by rw [List.getElem?_append_right (by omega), hmm, Nat.sub_self]; rfl) (by omega)
  injection e1 with e1
  injection e1 with e1 e2
  subst e1 e2
  have m0 := hmf 0 _ rfl
  have m1 := hmf 1 _ rfl
  simp only [Nat.zero_add, Nat.add_zero] at m0 m1
  have HM := Lib.hid hm
  have HP : Hid (∀ W', Keeps w W' [] → (Keeps w W' [] ∧ W'.cell? ⟨hb, 5, none⟩ = some (.slice (some ⟨g, 0, none⟩) (m + 1) cm) ∧ W'.cell? ⟨g, m * 2, none⟩ = some (.int .i64 c) ∧ W'.cell? ⟨g, m * 2 + 1, none⟩ = some (.int .i64 t))) := fun W' k =>
    ⟨k, (hm.blk.keep k (by simp)).cell 5, (k.cell (p := ⟨g, m * 2, none⟩) hmb (by simp)).trans m0, (k.cell (p := ⟨g, m * 2 + 1, none⟩) hmb (by simp)).trans m1⟩
  have HA := Lib.hid (And.intro ht (And.intro hc hnt))
  have HPl := Lib.hid hpl
  have HI := Lib.hid (And.intro hinj hvn)
  have x5 := hm.blk.cell 5
  have b0 : (0 : Int) ≤ (m : Int) := Int.natCast_nonneg _
  have b2 : wrap64 (m : Int) = (m : Int) := wrapB m (by omega)
  have b5 : IntKind.i64.wrap (m : Int) = (m : Int) := wrapI64 m (by omega)
  have b4 : (m : Int) < (m : Int) + 1 := by omega
  have hne : ((m : Int) + 1 == 0) = false := by simp; omega
  clear hm hmm hcap hfew hmb hmf m0 m1 ht hc hpl hinj hvn hnt
  go_enter Tryz.func16, Tryz.ntmps16
  go_upto_region 3 with fail
  refine wp_region_tw (fun W' => Keeps w W' [] ∧ W'.cell? ⟨hb, 5, none⟩ = some (.slice (some ⟨g, 0, none⟩) (m + 1) cm) ∧ W'.cell? ⟨g, m * 2, none⟩ = some (.int .i64 c) ∧ W'.cell? ⟨g, m * 2 + 1, none⟩ = some (.int .i64 t)) 13 [.op ⟨12, 3, fun b => .pointer (some ⟨b, 0, none⟩), 74, #[.int .i64 0, .int .i64 0]⟩, .take 0, .take 1, .take 2, .take 3, .take 4, .take 5, .take 6, .take 7, .take 8, .take 9, .take 10, .take 11, .cl] [(13, false)] (by kernel_rfl) (by kernel_rfl) (fun w1 w2 k h => HP.out _ (h.1.trans k)) (by exact HP.out _ (Keeps.refl _ []).drew) (fun _ => ?_)
  (refine wpTw_op rfl rfl (by intro w' hSw; (try dsimp only at hSw); go_simp; (try with_reducible rfl); done) (by rfl) ?_; simp only [List.nil_append])
  (repeat (first | (refine wpTw_take (v := ?_) rfl ?_ (by rfl) ?_; rotate_left; (focus (intro w' hSw; (try dsimp only at hSw); go_simp; (try with_reducible rfl); done)); simp only [Act.put, List.setIfInBounds_toArray, List.set_cons_zero, List.set_cons_succ]) | (refine wpTw_skip rfl (by rfl) ?_; simp only [Act.put, List.setIfInBounds_toArray, List.set_cons_zero, List.set_cons_succ])))
  refine wpTw_cl (fun W3 hk3 hS3 => ?_)
  intro mb mb_b mb_u mb_x mb_B
  dsimp only at mb_B
  have J3 := Lib.hid hS3.1
  have L3 := Lib.hid hk3
  clear hS3 hk3
  have mb_H := Lib.hid mb_B
  clear mb_x mb_B
  clear mb_u
  (try simp only [Act.put, List.setIfInBounds_toArray, List.set_cons_zero, List.set_cons_succ])
  have q := mb_H.out
  have qc0 := q.cell 0
  have qf0 := q.frozen 0
  have qc1 := q.cell 1
  have qf1 := q.frozen 1
  change wpTy _ _ _ _ _ _ _ _
  refine wpTy_last rfl (by decide) (fun K hK => ?_)
  go_simp
  refine hK.out _ _ (NoPanic.normal ?_)
  clear hK K
  (try simp only [Act.put, List.setIfInBounds_toArray, List.set_cons_zero, List.set_cons_succ])
  change Exit.then _ _ _ _ ((W3.setCell ⟨mb, 0, none⟩ (.int .i64 c)).setCell ⟨mb, 1, none⟩ (.int .i64 t))
  have HB4 : Hid (Blk ((W3.setCell ⟨mb, 0, none⟩ (.int .i64 c)).setCell ⟨mb, 1, none⟩ (.int .i64 t)) mb 74 #[.int .i64 c, .int .i64 t]) := by
    have h := ((mb_H.out).set_ 0 (.int .i64 c)).set_ 1 (.int .i64 t)
    exact Lib.hid (by simpa using h)
  have HK4 : Hid (Keeps w ((W3.setCell ⟨mb, 0, none⟩ (.int .i64 c)).setCell ⟨mb, 1, none⟩ (.int .i64 t)) []) := (J3.out.setCell (.inr (by simpa using mb_b)) _).setCell (.inr (by simpa using mb_b)) _
  have HMb : Hid (w.heap.size ≤ mb) := by simpa using Lib.hid mb_b
  generalize ((W3.setCell ⟨mb, 0, none⟩ (.int .i64 c)).setCell ⟨mb, 1, none⟩ (.int .i64 t)) = w4 at HB4 HK4 ⊢
  clear q qc0 qf0 qc1 qf1 mb_H mb_b J3 L3 HP x5 hne b0 b2 b5 b4
  have HM4 := Lib.hid (HM.out.keep0 HK4.out)
  obtain ⟨TB, hsl, htb⟩ := tail_run TA tr.length ct t HA.out.1
  have HTB := Lib.hid htb
  have HW4 : Hid (∀ W', Keeps w4 W' [] → (W'.cell? ⟨hb, 4, none⟩ = some (.slice TA tr.length ct) ∧ W'.cell? ⟨mb, 1, none⟩ = some (.int .i64 t))) := fun W' k => ⟨(HM4.out.blk.keep k (by simp)).cell 4, (HB4.out.keep k (by simp)).cell 1⟩
  clear htb
  have hw4 := HW4.out w4 (Keeps.refl _ _)
  obtain ⟨y4, ym1⟩ := hw4
  obtain ⟨n, hn⟩ : ∃ n, tr.length - t = n := ⟨_, rfl⟩
  rw [hn] at hsl
  have HN : Hid ((tr.drop t).length = n) := by rw [← hn]; exact Lib.hid (by simp)
  have HN2 := Lib.hid hn
  have hn6 : (n : Int) ≤ 1000000 := by have := HA.out.2.2; omega
  clear hn
  go_wp2_with fail
  go_quiet (fail)
  go_wp2_with fail
  clear y4 ym1 hsl
  go_loopw [36, 5] (fun x36 _ wr => ∃ k : Nat, k ≤ n ∧ x36 = .int .i64 k ∧ Ar wr base ag ah (backL ((tr.drop t).take k) H.cells) room ∧ Keeps w4 wr [ag, ah]) (fun i _ _ => n - (intOf i).toNat)
  case atStart => exact ⟨0, Nat.zero_le _, rfl, by rw [List.take_zero]; exact HM4.out.ar.drewN _, (Keeps.refl _ _).drewN _⟩
  case round =>
    obtain ⟨k, hk, rfl, ha, hkk⟩ := hrel
    have HAr := Lib.hid ha
    have HKK := Lib.hid hkk
    clear ha hkk
    by_cases hlt : k < n
    · obtain ⟨p, hp⟩ := at_of HN.out hlt
      obtain ⟨q, rfl, hq⟩ := HPl.out p (List.mem_of_getElem? hp)
      have htk : tr[t + k]? = some (q : Int) := by rw [List.getElem?_drop] at hp; exact hp
      have htkl := (List.getElem?_eq_some_iff.1 htk).1
      have hn2 := HN2.out
      obtain ⟨tg, hTA, htc⟩ := own_atP HM4.out.trail (by omega)
      have hTB := HTB.out tg hTA htc (by omega)
      subst hTB
      have hc5 : wr.cell? ⟨tg, t + k, none⟩ = some (.int .i64 q) := by
        have hap := HM4.out.apart
        have h1 := HM4.out.trail
        rw [hTA] at h1
        have h2 := h1.cellAt (t + k) (by omega)
        rw [List.getElem?_map, htk] at h2
        have hlt' := (own_block h1).choose_spec.1.lt
        have n1 : tg ≠ ag := fun e => (hap.a2 ag (by simp)).2.2.1 (by rw [hTA, ← e]; simp [ownL, Value.ownBlock])
        have n2 : tg ≠ ah := fun e => (hap.a2 ah (by simp)).2.2.1 (by rw [hTA, ← e]; simp [ownL, Value.ownBlock])
        exact (HKK.out.cell (p := ⟨tg, t + k, none⟩) hlt' (by simp; exact ⟨n1, n2⟩)).trans h2
      have hq6 : q < 65536 := by have := HM4.out.ar.fits; have := HM4.out.ar.most; omega
      have hcl := cell_mk (k := 0) (n := (q : Int)) (by omega) (by omega) (by omega) (by omega)
      rw [Int.add_zero] at hcl
      have HMk := Lib.hid (fun W => make_yes 0 (q : Int) W ⟨by omega, by omega, by omega, by omega⟩)
      have hln := backL_len ((tr.drop t).take k) H.cells
      have HSe := Lib.hid (fun W (kk : Keeps wr W []) => set_yes (HAr.out.keep kk (by simp) (by simp)) q ((q : Int) * 8) (by rw [hln]; exact hq) (by omega) (by omega) hcl.1)
      have HNx : Hid ((backL ((tr.drop t).take k) H.cells).set q ((q : Int) * 8) = backL ((tr.drop t).take (k + 1)) H.cells) := by
        rw [List.take_add_one, hp, Option.toList_some, backL_snoc, Int.toNat_natCast]
        exact Lib.hid rfl
      have HS0 : Hid (∀ W, Keeps wr W [] → W.cell? ⟨hb, 0, none⟩ = some (.pointer (some ⟨ag, 0, none⟩))) := fun W kk => by
        have hap := HM4.out.apart.a1
        exact (((HM4.out.blk.keep HKK.out (by simp; exact ⟨hap.1, hap.2.1⟩))).keep kk (by simp)).cell 0
      have b0 : (0 : Int) ≤ (k : Int) := Int.natCast_nonneg _
      have b1 : (k : Int) < (n : Int) := by omega
      clear hn2 hp htk htkl hTA htc hq hq6 hcl hln
      go_upto_region 7 with fail
      clear hc5
      refine wp_region_tx (fun W' => W'.cell? ⟨hb, 0, none⟩ = some (.pointer (some ⟨ag, 0, none⟩))) [(0, true), (1, true), (2, true), (3, true), (4, true), (5, true), (6, false), (7, false)] (by kernel_rfl) (by kernel_rfl) (HS0.out _ (Keeps.refl _ _).drew) (fun hHeld => ?_)
      (repeat (first | (refine wpTx_take (v := ?_) rfl (by assumption) ?_ (by rfl) ?_; rotate_left; (focus (intro w' hSw; (try dsimp only at hSw); go_simp; (try with_reducible rfl); done)); simp only [Act.put, List.setIfInBounds_toArray, List.set_cons_zero, List.set_cons_succ]) | (refine wpTx_skip rfl (by assumption) (by rfl) ?_; simp only [Act.put, List.setIfInBounds_toArray, List.set_cons_zero, List.set_cons_succ])))
      refine wpTx_go rfl (fun K hK => ?_)
      go_simp
      refine (HMk.out _).mono ?_
      rintro e w5 ⟨rfl, rfl⟩
      rw [Int.add_zero]
      refine hK.out _ _ ?_ ?_
      · exact HS0.out _ (Keeps.refl _ _).drew
      (clear hHeld; intro hHeld; clear hK K; (try simp only [Act.put, List.setIfInBounds_toArray, List.set_cons_zero, List.set_cons_succ]))
      refine wpTx_last rfl (fun K hK => ?_)
      go_simp
      refine (HSe.out _ (Keeps.refl _ _).drew).mono ?_
      rintro e w6 ⟨rfl, ha6, k6⟩
      have HA6 := Lib.hid ha6
      have HK6 : Hid (Keeps w4 w6 [ag, ah]) := (HKK.out.drew).trans k6
      clear ha6 k6
      refine hK.out _ _ (NoPanic.normal ?_); clear hK K; (try simp only [Act.put, List.setIfInBounds_toArray, List.set_cons_zero, List.set_cons_succ])
      clear hHeld
      go_wp2_with fail
      go_roundw
      case rel => exact ⟨k + 1, by omega, by go_num, by have h := HA6.out; rw [HNx.out] at h; exact h, HK6.out⟩
      case measure => simp [intOf]; omega
    · obtain rfl : n = k := by omega
      clear hlt hk
      have hfull : (tr.drop t).take n = tr.drop t := List.take_of_length_le (by rw [HN.out]; exact Nat.le_refl _)
      rw [hfull] at HAr
      clear hfull
      have hM5 := HM4.out.cells HKK.out HAr.out (by rw [backL_len]; exact Nat.le_refl _)
      have HM5 := Lib.hid hM5
      have hlt4 := HM4.out.lt
      have hmbn : ∀ b ∈ hpL hb ag ah vb AA FA TA (some ⟨g, 0, none⟩), mb ≠ b := fun b hb' e => by
        have h1 := HM.out.lt b hb'
        have := HMb.out
        omega
      have HMn := Lib.hid hmbn
      have HB5 := Lib.hid (HB4.out.keep HKK.out (by simp; exact ⟨hmbn ag (by simp [hpL]), hmbn ah (by simp [hpL])⟩))
      have hTA0 : ∀ a, TA = some a → ∃ g, a = ⟨g, 0, none⟩ := fun a e => by
        rcases hM5.trail.2 with ⟨h, _⟩ | ⟨g', cap, cur, h, _⟩
        · injection h with h; rw [e] at h; cases h
        · injection h with h; rw [e] at h; exact ⟨g', Option.some.inj h⟩
      have htc : t ≤ ct ∨ TA = none := by
        rcases hM5.trail.2 with ⟨h, _⟩ | ⟨g', cap, cur, h, _, _, h2, _⟩
        · injection h with h; exact .inr h
        · injection h with _ _ h; have := HA.out.1; exact .inl (by omega)
      have htc' : t ≤ ct := by
        rcases htc with h | h
        · exact h
        · have h1 := hM5.trail
          subst h
          have h2 := own_zeroN h1
          rcases h1.2 with ⟨_, h3⟩ | ⟨_, _, _, h3, _⟩
          · have := HA.out.1; omega
          · injection h3 with h3; cases h3
      have hsl := head_run0 TA tr.length ct t htc' hTA0
      have HSh := Lib.hid (own_takeA hM5.trail t HA.out.1)
      have HW9 : Hid (∀ W', Keeps wr W' [] → (W'.cell? ⟨hb, 4, none⟩ = some (.slice TA tr.length ct) ∧ W'.cell? ⟨mb, 1, none⟩ = some (.int .i64 t))) := fun W' k => ⟨(HM5.out.blk.keep k (by simp)).cell 4, (HB5.out.keep k (by simp)).cell 1⟩
      have f4 := hM5.blk.frozen 4
      have y4 := hM5.blk.cell 4
      clear hM5 hlt4 hmbn hTA0 htc htc'
      go_upto_region 9 with fail
      refine wp_region_tx (fun W' => W'.cell? ⟨hb, 4, none⟩ = some (.slice TA tr.length ct) ∧ W'.cell? ⟨mb, 1, none⟩ = some (.int .i64 t)) [(0, true), (1, true), (2, true), (3, true), (4, true), (5, true), (6, true), (7, true), (8, true), (9, true), (10, false)] (by kernel_rfl) (by kernel_rfl) (HW9.out _ (Keeps.refl _ _).drew) (fun hHeld => ?_)
      (first | (refine wpTx_take (v := ?_) rfl (by assumption) ?_ (by rfl) ?_; rotate_left; (focus (intro w' hSw; (try dsimp only at hSw); go_simp; (try with_reducible rfl); done)); simp only [Act.put, List.setIfInBounds_toArray, List.set_cons_zero, List.set_cons_succ]) | (refine wpTx_skip rfl (by assumption) (by rfl) ?_; simp only [Act.put, List.setIfInBounds_toArray, List.set_cons_zero, List.set_cons_succ]))
      (first | (refine wpTx_take (v := ?_) rfl (by assumption) ?_ (by rfl) ?_; rotate_left; (focus (intro w' hSw; (try dsimp only at hSw); go_simp; (try with_reducible rfl); done)); simp only [Act.put, List.setIfInBounds_toArray, List.set_cons_zero, List.set_cons_succ]) | (refine wpTx_skip rfl (by assumption) (by rfl) ?_; simp only [Act.put, List.setIfInBounds_toArray, List.set_cons_zero, List.set_cons_succ]))
      (first | (refine wpTx_take (v := ?_) rfl (by assumption) ?_ (by rfl) ?_; rotate_left; (focus (intro w' hSw; (try dsimp only at hSw); go_simp; (try with_reducible rfl); done)); simp only [Act.put, List.setIfInBounds_toArray, List.set_cons_zero, List.set_cons_succ]) | (refine wpTx_skip rfl (by assumption) (by rfl) ?_; simp only [Act.put, List.setIfInBounds_toArray, List.set_cons_zero, List.set_cons_succ]))
      (first | (refine wpTx_take (v := ?_) rfl (by assumption) ?_ (by rfl) ?_; rotate_left; (focus (intro w' hSw; (try dsimp only at hSw); go_simp; (try with_reducible rfl); done)); simp only [Act.put, List.setIfInBounds_toArray, List.set_cons_zero, List.set_cons_succ]) | (refine wpTx_skip rfl (by assumption) (by rfl) ?_; simp only [Act.put, List.setIfInBounds_toArray, List.set_cons_zero, List.set_cons_succ]))
      (first | (refine wpTx_take (v := ?_) rfl (by assumption) ?_ (by rfl) ?_; rotate_left; (focus (intro w' hSw; (try dsimp only at hSw); go_simp; (try with_reducible rfl); done)); simp only [Act.put, List.setIfInBounds_toArray, List.set_cons_zero, List.set_cons_succ]) | (refine wpTx_skip rfl (by assumption) (by rfl) ?_; simp only [Act.put, List.setIfInBounds_toArray, List.set_cons_zero, List.set_cons_succ]))
      (first | (refine wpTx_take (v := ?_) rfl (by assumption) ?_ (by rfl) ?_; rotate_left; (focus (intro w' hSw; (try dsimp only at hSw); go_simp; (try with_reducible rfl); done)); simp only [Act.put, List.setIfInBounds_toArray, List.set_cons_zero, List.set_cons_succ]) | (refine wpTx_skip rfl (by assumption) (by rfl) ?_; simp only [Act.put, List.setIfInBounds_toArray, List.set_cons_zero, List.set_cons_succ]))
      (first | (refine wpTx_take (v := ?_) rfl (by assumption) ?_ (by rfl) ?_; rotate_left; (focus (intro w' hSw; (try dsimp only at hSw); go_simp; (try with_reducible rfl); done)); simp only [Act.put, List.setIfInBounds_toArray, List.set_cons_zero, List.set_cons_succ]) | (refine wpTx_skip rfl (by assumption) (by rfl) ?_; simp only [Act.put, List.setIfInBounds_toArray, List.set_cons_zero, List.set_cons_succ]))
      (first | (refine wpTx_take (v := ?_) rfl (by assumption) ?_ (by rfl) ?_; rotate_left; (focus (intro w' hSw; (try dsimp only at hSw); go_simp; (try with_reducible rfl); done)); simp only [Act.put, List.setIfInBounds_toArray, List.set_cons_zero, List.set_cons_succ]) | (refine wpTx_skip rfl (by assumption) (by rfl) ?_; simp only [Act.put, List.setIfInBounds_toArray, List.set_cons_zero, List.set_cons_succ]))
      (first | (refine wpTx_take (v := ?_) rfl (by assumption) ?_ (by rfl) ?_; rotate_left; (focus (intro w' hSw; (try dsimp only at hSw); go_simp; (try with_reducible rfl); done)); simp only [Act.put, List.setIfInBounds_toArray, List.set_cons_zero, List.set_cons_succ]) | (refine wpTx_skip rfl (by assumption) (by rfl) ?_; simp only [Act.put, List.setIfInBounds_toArray, List.set_cons_zero, List.set_cons_succ]))
      (first | (refine wpTx_take (v := ?_) rfl (by assumption) ?_ (by rfl) ?_; rotate_left; (focus (intro w' hSw; (try dsimp only at hSw); go_simp; (try with_reducible rfl); done)); simp only [Act.put, List.setIfInBounds_toArray, List.set_cons_zero, List.set_cons_succ]) | (refine wpTx_skip rfl (by assumption) (by rfl) ?_; simp only [Act.put, List.setIfInBounds_toArray, List.set_cons_zero, List.set_cons_succ]))
      refine wpTx_last rfl (fun K hK => ?_)
      go_simp
      refine hK.out _ _ (NoPanic.normal ?_); clear hK K; (try simp only [Act.put, List.setIfInBounds_toArray, List.set_cons_zero, List.set_cons_succ])
      clear hHeld hsl f4 y4
      have hM6 := HM5.out.trail_ (w1 := wr) (Keeps.refl _ _) (by rw [← List.map_take] at HSh; exact HSh.out) (fun b hb' => .inl hb')
      have hkh : Keeps wr (wr.setCell ⟨hb, 4, none⟩ (.slice TA t ct)) [hb] := (Keeps.refl _ _).setCell (.inl (by simp)) _
      have HB6 := Lib.hid ((HB5.out.keep hkh (by simp; exact HMn.out hb (by simp [hpL]))).drew)
      have HM6 := Lib.hid (hM6.keep0 (Keeps.refl _ []).drew)
      have HK6 : Hid (Keeps w4 (wr.setCell ⟨hb, 4, none⟩ (.slice TA t ct)).drew [hb, ag, ah]) := ((HKK.out.more (fun b _ h => by simp at h ⊢; exact .inr h)).trans (hkh.more (fun b _ h => by simp at h ⊢; exact .inl h))).drew
      generalize hw6 : (wr.setCell ⟨hb, 4, none⟩ (.slice TA t ct)).drew = w6 at HB6 HM6 HK6 ⊢
      clear hM6 hkh hw6 HM5 HB5 HW9 HSh HKK HAr
      have HCu := Lib.hid (fun W (kk : Keeps w6 W []) => cut_yes (HM6.out.ar.keep kk (by simp) (by simp)) c (by rw [backL_len]; exact HA.out.2.1))
      have HW10 : Hid (∀ W', Keeps w6 W' [] → (W'.cell? ⟨hb, 0, none⟩ = some (.pointer (some ⟨ag, 0, none⟩)) ∧ W'.cell? ⟨mb, 0, none⟩ = some (.int .i64 c))) := fun W' k => ⟨(HM6.out.blk.keep k (by simp)).cell 0, (HB6.out.keep k (by simp)).cell 0⟩
      go_upto_region 10 with fail
      refine wp_region_tx (fun W' => W'.cell? ⟨hb, 0, none⟩ = some (.pointer (some ⟨ag, 0, none⟩)) ∧ W'.cell? ⟨mb, 0, none⟩ = some (.int .i64 c)) [(0, true), (1, true), (2, true), (3, true), (4, true), (5, true), (6, false)] (by kernel_rfl) (by kernel_rfl) (HW10.out _ (Keeps.refl _ _).drew) (fun hHeld => ?_)
      (repeat (first | (refine wpTx_take (v := ?_) rfl (by assumption) ?_ (by rfl) ?_; rotate_left; (focus (intro w' hSw; (try dsimp only at hSw); go_simp; (try with_reducible rfl); done)); simp only [Act.put, List.setIfInBounds_toArray, List.set_cons_zero, List.set_cons_succ]) | (refine wpTx_skip rfl (by assumption) (by rfl) ?_; simp only [Act.put, List.setIfInBounds_toArray, List.set_cons_zero, List.set_cons_succ])))
      refine wpTx_last rfl (fun K hK => ?_)
      go_simp
      refine (HCu.out _ (Keeps.refl _ _).drew).mono ?_
      rintro e w7 ⟨rfl, ha7, k7⟩
      have HA7 := Lib.hid ha7
      have HK7 : Hid (Keeps w6 w7 [ag, ah]) := (Keeps.refl _ _).drew.trans k7
      clear ha7 k7
      refine hK.out _ _ (NoPanic.normal ?_); clear hK K; (try simp only [Act.put, List.setIfInBounds_toArray, List.set_cons_zero, List.set_cons_succ])
      clear hHeld
      have hb7 := HM6.out.blk.keep HK7.out (by have := HM6.out.apart.a1; simp; exact ⟨this.1, this.2.1⟩)
      have y3 := hb7.cell 3
      have hv7 := HM6.out.vars.kept HK7.out (by have := HM6.out.apart.a1; simp; exact ⟨this.2.2.2.1, this.2.2.2.2.1⟩)
      have HDe := Lib.hid (vdel_any hv7 (HB6.out.keep HK7.out (by simp; exact ⟨HMn.out ag (by simp [hpL]), HMn.out ah (by simp [hpL])⟩)) (HMn.out vb (by simp [hpL])) (c := c) rfl HI.out.1 HI.out.2)
      clear hb7 hv7
      go_wp2_with fail
      refine HDe.out.mono ?_
      rintro e w8 ⟨rfl, hv8, k8⟩
      have HV8 := Lib.hid hv8
      have HK8 := Lib.hid k8
      clear hv8 k8 y3
      go_wp2_with fail
      go_ret
      have hl : ((backL (tr.drop t) H.cells).take c).length = c := by rw [List.length_take, backL_len]; have := HA.out.2.1; omega
      have hV : VM w8 vb ((backL (tr.drop t) H.cells).take c).length (keepV H.vars c) := by rw [hl]; exact HV8.out
      have hU := HM6.out.undone HK7.out HA7.out HK8.out hV
      refine ⟨rfl, _, ⟨_, _, _, _, _, _, _, _, _, _, _, _, _, rfl, hU⟩, HSt.of (((HK4.out.to_ _).trans (HK6.out.more ?_)).trans ((HK7.out.more ?_).trans (HK8.out.more ?_))) (M := hpL hb ag ah vb AA FA TA (some ⟨g, 0, none⟩)) (fun b h => h)⟩
      · intro b _ h; simp at h; rcases h with rfl | rfl | rfl <;> simp [hpL]
      · intro b _ h; simp at h; rcases h with rfl | rfl <;> simp [hpL]
      · intro b _ h; simp at h; subst h; simp [hpL]
end Go.Proofs.YtnonfmaehfmigaaGreatDoor

/- Two terms that are built are read as they were, but for variables' numbers: the plain law. -/
namespace Go.Proofs.YtnonfmaehfmigaaGreatDoor

theorem tSizes_map {f : Tm → Tm} : ∀ {l : List Tm}, (∀ a ∈ l, tSize (f a) = tSize a) → tSizes (l.map f) = tSizes l
  | [], _ => rfl
  | a :: l, h => by rw [List.map_cons, tSizes, tSizes, h a (by simp), tSizes_map fun b hb => h b (by simp [hb])]
theorem tRn_size (f : Int → Int) (t : Tm) : tSize (tRn f t) = tSize t := by
  induction t using Tm.ind_ with
  | h k n s l ih =>
    by_cases h0 : k = 0
    · rw [tRn_var f s l h0, tSize, tSize, tSizes_map ih]
    · rw [tRn_node f s l h0, tSize, tSize, tSizes_map ih]
theorem tRn_right {f : Int → Int} (t : Tm) : tRight t = true → (∀ n ∈ tV t, 0 ≤ f n ∧ f n ≤ 999) → tRight (tRn f t) = true := by
  induction t using Tm.ind_ with
  | h k n s l ih =>
    intro ht hf
    by_cases h0 : k = 0
    · subst h0
      have h1 := hf n (by rw [tV, if_pos rfl]; simp)
      rw [tRn_var f s l rfl]
      rw [tRight, Bool.and_eq_true, if_pos rfl] at ht ⊢
      obtain ⟨_, ht⟩ := ht
      simp only [Bool.and_eq_true, decide_eq_true_eq] at ht ⊢
      have hl : l = [] := List.length_eq_zero_iff.1 ht.2
      subst hl
      exact ⟨by simp [tRights], ⟨⟨h1, ht.1.2⟩, by simp⟩⟩
    · have hp := right_parts ht
      rw [tRn_node f s l h0]
      rw [tRight, Bool.and_eq_true] at ht ⊢
      refine ⟨(tRights_all _).2 fun a ha => ?_, by simpa using ht.2⟩
      obtain ⟨b, hb, rfl⟩ := List.mem_map.1 ha
      exact ih b hb (hp b hb) fun m hm => hf m (by rw [tV, if_neg h0]; exact mem_tVL.2 ⟨b, hb, hm⟩)
theorem tRn_vars {f : Int → Int} (t : Tm) : ∀ n ∈ tV (tRn f t), ∃ m ∈ tV t, n = f m := by
  induction t using Tm.ind_ with
  | h k n s l ih =>
    intro x hx
    by_cases h0 : k = 0
    · rw [tRn_var f s l h0, tV, if_pos h0] at hx
      simp at hx
      exact ⟨n, by rw [tV, if_pos h0]; simp, hx⟩
    · rw [tRn_node f s l h0, tV, if_neg h0] at hx
      obtain ⟨b, hb, hxb⟩ := mem_tVL.1 hx
      obtain ⟨a, ha, rfl⟩ := List.mem_map.1 hb
      obtain ⟨m, hm, e⟩ := ih a ha x hxb
      exact ⟨m, by rw [tV, if_neg h0]; exact mem_tVL.2 ⟨a, ha, hm⟩, e⟩
/-- Renamed by numbers that stay different, and named anew: the same. -/
theorem rn_inj {f : Int → Int} {l : List Tm} (hr : ∀ a ∈ l, tRight a = true) (hi : Inj f (tVars l)) : rn 0 (l.map (tRn f)) = rn 0 l := by
  have hin := vars_in hr
  have hv : tVars (l.map (tRn f)) = (tVars l).map f := vars_map hi hin
  show (l.map (tRn f)).map (tRn (ren 0 (tVars (l.map (tRn f))))) = l.map (tRn (ren 0 (tVars l)))
  rw [hv, List.map_map]
  refine List.map_congr_left fun a ha => ?_
  show tRn _ (tRn _ a) = _
  rw [tRn_comp]
  refine tRn_congr a (hr a ha) fun n hn => ?_
  show 0 + findI (hasI (f n)) ((tVars l).map f) = 0 + findI (hasI n) (tVars l)
  rw [findI_map hi (fun a h => h) ((hin a ha).vs n hn)]
theorem plc_at {H : PH} (v : VI H) {n : Int} (h : H.vars n ≠ none) : ∃ q : Nat, plc H n = q ∧ H.vars n = some (q : Int) ∧ q < H.cells.length := by
  cases hv : H.vars n with
  | none => exact absurd hv h
  | some p =>
    obtain ⟨q, rfl, hq⟩ := v.at_ n p hv
    exact ⟨q, by unfold plc; rw [hv]; rfl, rfl, (List.getElem?_eq_some_iff.1 hq).1⟩
/-- What two terms come to, in a fresh heap. -/
structure HpTwo (a b : Tm) (room : Nat) : Prop where
  fit1 : FitR room (lay PH0 a).1
  fit2 : FitR room (lay (lay PH0 a).1 b).1
  vi1 : VI (lay PH0 a).1
  vi2 : VI (lay (lay PH0 a).1 b).1
  ok2 : HOk (lay (lay PH0 a).1 b).1
  c1 : RefC (lay (lay PH0 a).1 b).1 (lay PH0 a).2
  c2 : RefC (lay (lay PH0 a).1 b).1 (lay (lay PH0 a).1 b).2
  rg : ∃ f : Int → Int, Rg (lay (lay PH0 a).1 b).1 (lay PH0 a).2 (tRn f a) ∧ Rg (lay (lay PH0 a).1 b).1 (lay (lay PH0 a).1 b).2 (tRn f b) ∧ (∀ n, n ∈ tV a ∨ n ∈ tV b → 0 ≤ f n ∧ f n ≤ 999) ∧ Inj f (tVars [a, b])
theorem two_of {a b : Tm} (ha : tRight a = true) (hb : tRight b = true) {room : Nat} (hr : room ≤ 1000) (hs : 2 * (tSize a + tSize b) ≤ room) : HpTwo a b room := by
  have g1 := (lay_grow a PH0).1
  have g2 := (lay_grow b (lay PH0 a).1).1
  have e1 : PH0.cells.length = 0 := rfl
  have e2 : PH0.atoms.length = 0 := rfl
  have e3 : PH0.funs.length = 0 := rfl
  have a1 := g1.cells
  have a2 := g1.atoms
  have a3 := g1.funs
  have b1 := g2.cells
  have b2 := g2.atoms
  have b3 := g2.funs
  have f1 : FitR room (lay PH0 a).1 := ⟨by omega, by omega, by omega⟩
  have f2 : FitR room (lay (lay PH0 a).1 b).1 := ⟨by omega, by omega, by omega⟩
  obtain ⟨l1, v1, d1, r1⟩ := lay_ok a ha PH0 PH0.vi
  obtain ⟨l2, v2, d2, r2⟩ := lay_ok b hb _ v1
  obtain ⟨k1, c1⟩ := lay_hok (by omega : room ≤ 65536) a ha PH0 PH0.ok f1
  obtain ⟨k2, c2⟩ := lay_hok (by omega : room ≤ 65536) b hb _ k1 f2
  have r1' := r1.mono l2
  rw [tRn_congr a (g := plc (lay (lay PH0 a).1 b).1) ha (fun n hn => (plc_mono l2 (d1 n hn)).symm)] at r1'
  have hd : ∀ n, n ∈ tV a ∨ n ∈ tV b → (lay (lay PH0 a).1 b).1.vars n ≠ none := fun n hn => hn.elim (fun h => vars_mono l2 (d1 n h)) (d2 n)
  refine ⟨f1, f2, v1, v2, k2, c1.mono l2, c2, _, r1'.rg (by omega : room ≤ 65536) f2, r2.rg (by omega : room ≤ 65536) f2, fun n hn => ?_, fun n hn m hm he => ?_⟩
  · obtain ⟨q, h1, _, h3⟩ := plc_at v2 (hd n hn)
    rw [h1]
    have := f2.1
    omega
  · have hin : ∀ n ∈ tVars [a, b], n ∈ tV a ∨ n ∈ tV b := fun n hn => by
      rcases (walks_mem (fun x hx => by simp at hx; rcases hx with rfl | rfl <;> assumption) [] n).1 hn with h | h
      · cases h
      · simpa [tVL] using h
    obtain ⟨q, h1, h2, _⟩ := plc_at v2 (hd n (hin n hn))
    obtain ⟨q', h1', h2', _⟩ := plc_at v2 (hd m (hin m hm))
    rw [h1, h1'] at he
    have : q = q' := by omega
    subst this
    exact v2.inj n m _ h2 h2'
end Go.Proofs.YtnonfmaehfmigaaGreatDoor

/- A cell's text: that of a compound (turned from XCellText, whose names clash with the terms'). -/
namespace Go.Proofs.YtnonfmaehfmigaaGreatDoor
open Go.RowKit
attribute [local go_sem] drewN_alloc
attribute [local go_sem ↓] Go.wp_at_zero Go.wp_at_succ
theorem ditoa_any (n : Nat) (hn : n ≤ 9223372036854775807) (w : World) (ht : Tab w) :
    Calls Tryz.prog 50 #[.int .i64 n] w fun e w' => e = .returned (.string (digits n)) ∧ Keeps w w' [] := itoa_any n hn w ht
def kindName : Nat → ByteArray
  | 0 => ⟨#[114, 101, 102, 32]⟩
  | 1 => ⟨#[115, 116, 114, 32]⟩
  | 2 => ⟨#[99, 111, 110, 32]⟩
  | 3 => ⟨#[108, 105, 115, 32]⟩
  | _ => ⟨#[102, 117, 110, 32]⟩
set_option maxHeartbeats 1600000 in
theorem ctext1_any (c : Int) (n : Nat) (w : World) (h0 : 0 ≤ c) (h1 : c < 18446744073709551616) (hr : right c = true) (hk : kindOf c = 1) (hn : numOf c = n) (hn2 : n < 1099511627776) (ht : Tab w) :
    Calls Tryz.prog 24 #[.int .u64 c] w fun e w' => e = .returned (.string (kindName 1 ++ digits n)) ∧ Keeps w w' [] := by
  have HR := Lib.hid hr
  have HK := Lib.hid hk
  have HN := Lib.hid hn
  have HT := Lib.hid ht
  have hs := digits_size n (by omega)
  have a1 : ∀ w, (Op.stringOp .add (⟨#[115, 116, 114, 32]⟩ : ByteArray) (digits n)).run Tryz.prog w = .ok (.string (kindName 1 ++ digits n)) w := fun w => run_string_add_sum (P := Tryz.prog) w _ _ (by have : (⟨#[115, 116, 114, 32]⟩ : ByteArray).size = 4 := rfl; omega)
  have a2 : ∀ w, (Op.stringOp .add ((⟨#[115, 116, 114]⟩ : ByteArray) ++ ⟨#[32]⟩) (digits n)).run Tryz.prog w = .ok (.string (kindName 1 ++ digits n)) w := a1
  clear hr hk hn ht hs
  go_enter Tryz.func24, Tryz.ntmps24
  go_wp2_with fail
  refine (right_any c _ h0 h1).mono ?_
  rintro e w' ⟨rfl, rfl⟩
  rw [HR.out]
  go_wp2_with fail
  go_region_held3 (fun w' => w'.cell? ⟨w.heap.size, 1, none⟩ = some (.string ⟨#[115, 116, 114]⟩) ∧ Keeps w w' [])
    (first | (exact ⟨by simp [go_sem], by first | assumption | exact ((Keeps.refl w []).alloc _).drew | exact (Keeps.refl w []).alloc _⟩) | (exact ⟨(hk2.cell (p := ⟨w.heap.size, 1, none⟩) (by simp) (by simp)).trans (by simp [go_sem]), Keeps.trans (by first | exact ((Keeps.refl w []).alloc _).drew | exact (Keeps.refl w []).alloc _) hk2⟩))
    (first
      | (go_at_call 49; refine (kind_any c _ h0 h1).mono ?_; rintro e w' ⟨rfl, rfl⟩; rw [HK.out])
      | (go_at_call 51; refine (number_any c _ h0 h1).mono ?_; rintro e w' ⟨rfl, rfl⟩; rw [HN.out])
      | (go_at_call 50; refine (ditoa_any n (by omega) _ (by exact HT.out.keep (((Keeps.refl w []).alloc _).drew))).mono ?_; rintro e w2 ⟨rfl, hk2⟩))
  all_goals
    go_wp2_with fail
    go_ret
    exact ⟨rfl, (by assumption : _ ∧ Keeps w w2 []).2⟩
theorem ctext9 (w : World) (ht : Tab w) : Calls Tryz.prog 24 #[.int .u64 9] w fun e w' => e = .returned (.string ⟨#[115, 116, 114, 32, 49]⟩) ∧ Keeps w w' [] := by
  have h := ctext1_any 9 1 w (by omega) (by omega) (by decide +kernel) (by decide +kernel) (by decide +kernel) (by omega) ht
  rw [show kindName 1 ++ digits 1 = ⟨#[115, 116, 114, 32, 49]⟩ by kernel_rfl] at h
  exact h
end Go.Proofs.YtnonfmaehfmigaaGreatDoor

/- The program's Parse. -/
namespace Go.Proofs.YtnonfmaehfmigaaGreatDoor
open Go.RowKit

def tZero : Tm := .mk 0 0 ⟨#[]⟩ []
/-- What Parse tells: a term, and what was wrong. -/
def parseP (s : Txt) : Option Tm := if 10000 < s.length then none else parseTm numP s
def errOf (o : Option Tm) : Int := if o.isSome then 0 else 17
def ParseDone (w : World) (o : Option Tm) (e : Ending) (w' : World) : Prop := ∃ v, e = .returned (.tuple #[tvV v, .int .i64 (errOf o)]) ∧ Tr w' (fun b => w.heap.size ≤ b) (o.getD tZero) v ∧ Keeps w w' []
theorem ParseDone.zero {w wr : World} {o : Option Tm} (ho : o = none) (k : Keeps w wr []) : ParseDone w o (.returned (.tuple #[.agg #[.int .i64 0, .int .i64 0, .string ⟨#[]⟩, .slice none 0 0], .int .i64 17])) wr := by
  subst ho
  exact ⟨⟨0, 0, ⟨#[]⟩, none, 0, 0⟩, rfl, Tr.leaf _ _ _ _ _ (by decide), k⟩
theorem ParseDone.zero4 {w wr : World} {o : Option Tm} (ho : o = none) (k : Keeps w wr []) (v0 v1 v2 v3 : Value) : ParseDone w o (.returned (.tuple #[.agg #[.int .i64 0, .int .i64 0, .string ⟨#[]⟩, .slice none 0 0], .int .i64 17])) ((((wr.setCell ⟨w.heap.size, 0, none⟩ v0).setCell ⟨w.heap.size, 1, none⟩ v1).setCell ⟨w.heap.size, 2, none⟩ v2).setCell ⟨w.heap.size, 3, none⟩ v3) := .zero ho (keeps_set4 k (Nat.le_refl _) _ _ _ _)
theorem ParseDone.some {w wr : World} {o : Option Tm} {t : Tm} {v : TV} (ho : o = Option.some t) (h : Tr wr (fun b => w.heap.size ≤ b ∧ b ≠ w.heap.size) t v) (k : Keeps w wr []) (v0 v1 v2 v3 : Value) :
    ParseDone w o (.returned (.tuple #[.agg #[.int .i64 v.k, .int .i64 v.n, .string v.s, .slice v.A v.len v.c], .int .i64 0])) ((((wr.setCell ⟨w.heap.size, 0, none⟩ v0).setCell ⟨w.heap.size, 1, none⟩ v1).setCell ⟨w.heap.size, 2, none⟩ v2).setCell ⟨w.heap.size, 3, none⟩ v3) := by
  subst ho
  exact ⟨v, rfl, (h.keepL (keeps_self4 wr w.heap.size v0 v1 v2 v3) (fun b hb h => h.2 (by simpa using hb))).mono fun b hb => hb.1, keeps_set4 k (Nat.le_refl _) _ _ _ _⟩

end Go.Proofs.YtnonfmaehfmigaaGreatDoor

/- The document's take and Parse. -/
namespace Go.Proofs.YtnonfmaehfmigaaGreatDoor
open Go.RowKit

theorem take_name (s : ByteArray) (w : World) (p : Txt → Option (Tm × Txt)) (h3 : 0 < s.size) (h88 : s.data.toList.head? ≠ some 88) (h91 : s.data.toList.head? ≠ some 91) (hf : s.size ≤ 10000)
    (hp : ∀ l x, p l = some x → x.2.length ≤ l.length)
    (ih : ∀ (x : ByteArray) (w : World), x.size < s.size → Calls Tryz.prog 46 #[.string x] w (TakeDone w x.data.toList (p x.data.toList))) :
    Calls Tryz.prog 46 #[.string s] w (TakeDone w s.data.toList (nameR p s.data.toList)) := by
  rcases br_all s.data.toList with h | h | h | h
  · exact take_name_1 s w p h3 h88 h91 hf h hp ih
  · exact take_name_2 s w p h3 h88 h91 hf h hp ih
  · exact take_name_3 s w p h3 h88 h91 hf h hp ih
  · exact take_name_4 s w p h3 h88 h91 hf h hp ih
theorem take_any (f : Nat) : ∀ (s : ByteArray) (w : World), s.size < f → s.size ≤ 10000 → Calls Tryz.prog 46 #[.string s] w (TakeDone w s.data.toList (pTerm numR f s.data.toList)) := by
  induction f with
  | zero => intro s w h; omega
  | succ f ih =>
    intro s w hl hf
    have hlen : ∀ l x, pTerm numR f l = some x → x.2.length ≤ l.length := pTerm_len numR_ok f
    have hih : ∀ (x : ByteArray) (w : World), x.size < s.size → Calls Tryz.prog 46 #[.string x] w (TakeDone w x.data.toList (pTerm numR f x.data.toList)) := fun x w h => ih x w (by omega) (by omega)
    by_cases h0 : s.size = 0
    · have e : s.data.toList = [] := List.length_eq_zero_iff.1 h0
      have := take_nil s w h0
      rw [e] at this ⊢
      rw [pTerm, if_neg (by simp), if_neg (by simp), if_pos (show ([] : Txt).takeWhile isAl = [] from rfl)]
      exact this
    by_cases h1 : s.data.toList.head? = some 88
    · rw [pTerm, if_pos h1]
      exact take_var s w h1 hf
    by_cases h2 : s.data.toList.head? = some 91
    · rw [pTerm, if_neg h1, if_pos h2]
      exact take_list s w (pTerm numR f) h2 hf hih
    · have h := take_name s w (pTerm numR f) (by omega) h1 h2 hf hlen hih
      have e : pTerm numR (f + 1) s.data.toList = nameR (pTerm numR f) s.data.toList := by
        by_cases h3 : s.data.toList.takeWhile isAl = []
        · rw [nameR_none h3, pTerm, if_neg h1, if_neg h2, if_pos h3]
        · by_cases h4 : (s.data.toList.dropWhile isAl).head? = some 40
          · rw [nameR_str h3 h4, pTerm_str h1 h2 h3 h4]
          · rw [nameR_con h3 h4, pTerm, if_neg h1, if_neg h2, if_neg h3, if_neg h4]
      rw [e]
      exact h

/-- What the document's Parse tells. -/
def parseD (s : Txt) : Option Tm := if 10000 < s.length then none else parseTm numR s
theorem parseD_same (s : Txt) : parseP s = parseD s := by
  unfold parseP parseD
  rw [parse_one numP_ok numR_ok]
def RParseDone (w : World) (o : Option Tm) (e : Ending) (w' : World) : Prop := ∃ v, e = .returned (.tuple #[tvV v, .bool o.isSome]) ∧ Tr w' (fun b => w.heap.size ≤ b) (o.getD tZero) v ∧ Keeps w w' []
theorem RParseDone.no {w wr : World} {o : Option Tm} (ho : o = Option.none) (k : Keeps w wr []) : RParseDone w o (.returned (.tuple #[.agg #[.int .i64 0, .int .i64 0, .string ⟨#[]⟩, .slice none 0 0], .bool false])) wr := by
  subst ho
  exact ⟨⟨0, 0, ⟨#[]⟩, Option.none, 0, 0⟩, rfl, Tr.leaf _ _ _ _ _ (by decide), k⟩
theorem RParseDone.no4 {w wr : World} {o : Option Tm} (ho : o = Option.none) (k : Keeps w wr []) (v0 v1 v2 v3 : Value) : RParseDone w o (.returned (.tuple #[.agg #[.int .i64 0, .int .i64 0, .string ⟨#[]⟩, .slice none 0 0], .bool false])) ((((wr.setCell ⟨w.heap.size, 0, Option.none⟩ v0).setCell ⟨w.heap.size, 1, Option.none⟩ v1).setCell ⟨w.heap.size, 2, Option.none⟩ v2).setCell ⟨w.heap.size, 3, Option.none⟩ v3)   := .no ho (keeps_set4 k (Nat.le_refl _) _ _ _ _)
theorem RParseDone.some {w wr : World} {o : Option Tm} {t : Tm} {v : TV} (ho : o = Option.some t) (h : Tr wr (fun b => w.heap.size ≤ b ∧ b ≠ w.heap.size) t v) (k : Keeps w wr []) (v0 v1 v2 v3 : Value) :
    RParseDone w o (.returned (.tuple #[.agg #[.int .i64 v.k, .int .i64 v.n, .string v.s, .slice v.A v.len v.c], .bool true])) ((((wr.setCell ⟨w.heap.size, 0, Option.none⟩ v0).setCell ⟨w.heap.size, 1, Option.none⟩ v1).setCell ⟨w.heap.size, 2, Option.none⟩ v2).setCell ⟨w.heap.size, 3, Option.none⟩ v3) := by
  subst ho
  exact ⟨v, rfl, (h.keepL (keeps_self4 wr w.heap.size v0 v1 v2 v3) (fun b hb h => h.2 (by simpa using hb))).mono fun b hb => hb.1, keeps_set4 k (Nat.le_refl _) _ _ _ _⟩

set_option maxRecDepth 100000 in
set_option maxHeartbeats 3200000 in
theorem refParse_any (s : ByteArray) (w : World) : Calls Tryz.prog 23 #[.string s] w (RParseDone w (parseD s.data.toList)) := by
  have hsl : s.data.toList.length = s.size := rfl
  have HB0 : Hid (Blk (w.alloc (.cells #[.int .i64 0, .int .i64 0, .string ⟨#[]⟩, .slice none 0 0] 24)) w.heap.size 24 #[.int .i64 0, .int .i64 0, .string ⟨#[]⟩, .slice none 0 0]) := Blk.new _ _ _
  have HK0 : Hid (Keeps w (w.alloc (.cells #[.int .i64 0, .int .i64 0, .string ⟨#[]⟩, .slice none 0 0] 24)) []) := (Keeps.refl w []).alloc _
  by_cases hlong : 10000 < s.size
  · have d0 : decide (10000 < (s.size : Int)) = true := by simp; omega
    have HE : Hid (parseD s.data.toList = none) := by show _ = _; rw [parseD, if_pos (by omega)]
    have HD := Lib.hid (RParseDone.no HE.out HK0.out)
    unfold RParseDone at HD ⊢
    go_enter Tryz.func23, Tryz.ntmps23
    go_wp2_with fail
    exact bodyPost_ret (v := .tuple #[.agg #[.int .i64 0, .int .i64 0, .string ⟨#[]⟩, .slice none 0 0], .bool false]) (by simp [results, Tryz.results23, go_sem, *]) rfl HD.out
  have d0 : decide (10000 < (s.size : Int)) = false := by simp; omega
  have ht := take_any (s.size + 1) s (w.alloc (.cells #[.int .i64 0, .int .i64 0, .string ⟨#[]⟩, .slice none 0 0] 24)) (by omega) (by omega)
  have HP : Hid (parseD s.data.toList = match pTerm numR (s.size + 1) s.data.toList with | some (t, []) => if tRight t then some t else none | _ => none) := by show _ = _; rw [parseD, if_neg (by omega)]; rfl
  obtain ⟨R, hRe⟩ : ∃ R, parseD s.data.toList = R := ⟨_, rfl⟩
  rw [hRe] at HP ⊢
  obtain ⟨r, hr⟩ : ∃ r, pTerm numR (s.size + 1) s.data.toList = r := ⟨_, rfl⟩
  rw [hr] at HP ht
  unfold TakeDone at ht
  have HT := Lib.hid ht
  clear hr hRe ht hlong
  unfold RParseDone
  go_enter Tryz.func23, Tryz.ntmps23
  go_wp2_with fail
  refine HT.out.mono ?_
  rintro e w1 ⟨t1, v1, n1, rfl, ht1, k1, i1⟩
  have HG : Hid (Blk (w1.alloc (.cells #[.int .i64 v1.k, .int .i64 v1.n, .string v1.s, .slice v1.A v1.len v1.c] 24)) w1.heap.size 24 #[.int .i64 v1.k, .int .i64 v1.n, .string v1.s, .slice v1.A v1.len v1.c]) := Blk.new _ _ _
  have HB1 := Lib.hid ((HB0.out.keep k1 (by simp)).alloc (.cells #[.int .i64 v1.k, .int .i64 v1.n, .string v1.s, .slice v1.A v1.len v1.c] 24))
  have HK1 := Lib.hid ((HK0.out.trans k1).alloc (.cells #[.int .i64 v1.k, .int .i64 v1.n, .string v1.s, .slice v1.A v1.len v1.c] 24))
  have HT1 := Lib.hid (ht1.keep ((Keeps.refl w1 []).alloc (.cells #[.int .i64 v1.k, .int .i64 v1.n, .string v1.s, .slice v1.A v1.len v1.c] 24)))
  have HZ1 : Hid (w.heap.size < w1.heap.size) := by have := k1.size; simp at this; show _ < _; omega
  unfold tvV
  clear ht1 k1 HT HK0 HB0
  have hb := HB1.out
  have zc0 := hb.cell 0
  have zf0 := hb.frozen 0
  have zc1 := hb.cell 1
  have zf1 := hb.frozen 1
  have zc2 := hb.cell 2
  have zf2 := hb.frozen 2
  have zc3 := hb.cell 3
  have zf3 := hb.frozen 3
  have hg := HG.out
  have yc0 := hg.cell 0
  have yf0 := hg.frozen 0
  have yc1 := hg.cell 1
  have yf1 := hg.frozen 1
  have yc2 := hg.cell 2
  have yf2 := hg.frozen 2
  have yc3 := hg.cell 3
  have yf3 := hg.frozen 3
  clear hb hg
  cases r with
  | none =>
    obtain rfl : n1 = 0 := i1.no rfl
    have HD := Lib.hid (RParseDone.no4 (o := R) HP.out HK1.out (.int .i64 0) (.int .i64 0) (.string ⟨#[]⟩) (.slice none 0 0))
    unfold RParseDone at HD
    clear i1
    go_wp2_with fail
    exact bodyPost_ret (v := .tuple #[.agg #[.int .i64 0, .int .i64 0, .string ⟨#[]⟩, .slice none 0 0], .bool false]) (by simp [results, Tryz.results23, go_sem, *]) rfl HD.out
  | some x =>
    obtain ⟨t, rest⟩ := x
    obtain ⟨hx1, hn1, hl1, hd1⟩ := i1.yes _ rfl
    simp only at hx1 hl1
    subst hx1
    have n0 : ((n1 : Int) == 0) = false := by simp; omega
    clear hd1 i1
    cases rest with
    | cons c rest =>
      have hne9 : ¬ (n1 : Int) = (s.size : Int) := by simp at hl1; omega
      have d1 : ((n1 : Int) == (s.size : Int)) = false := beq_eq_false_iff_ne.2 hne9
      clear hl1 hn1
      have HD := Lib.hid (RParseDone.no4 (o := R) HP.out HK1.out (.int .i64 0) (.int .i64 0) (.string ⟨#[]⟩) (.slice none 0 0))
      unfold RParseDone at HD
      go_wp2_with fail
      exact bodyPost_ret (v := .tuple #[.agg #[.int .i64 0, .int .i64 0, .string ⟨#[]⟩, .slice none 0 0], .bool false]) (by simp [results, Tryz.results23, go_sem, *]) rfl HD.out
    | nil =>
      have hn : n1 = s.size := by simp at hl1; omega
      subst hn
      have hrt := refRightT_any t1 v1 _ (HT1.out.mono fun _ _ => trivial)
      cases hr : tRight t1 with
      | false =>
        rw [hr] at hrt
        have HR := Lib.hid hrt
        have HE : Hid (R = none) := by show _ = _; rw [HP.out]; simp [hr]
        unfold tvV at HR
        clear hrt hr
        go_wp2_with fail
        refine HR.out.mono ?_
        rintro e w2 ⟨rfl, k2⟩
        have hb := HB1.out.keep k2 (by simp)
        have nc0 := hb.cell 0
        have nf0 := hb.frozen 0
        have nc1 := hb.cell 1
        have nf1 := hb.frozen 1
        have nc2 := hb.cell 2
        have nf2 := hb.frozen 2
        have nc3 := hb.cell 3
        have nf3 := hb.frozen 3
        have HD := Lib.hid (RParseDone.no4 (o := R) HE.out (HK1.out.trans k2) (.int .i64 0) (.int .i64 0) (.string ⟨#[]⟩) (.slice none 0 0))
        unfold RParseDone at HD
        clear hb k2
        go_wp2_with fail
        exact bodyPost_ret (v := .tuple #[.agg #[.int .i64 0, .int .i64 0, .string ⟨#[]⟩, .slice none 0 0], .bool false]) (by simp [results, Tryz.results23, go_sem, *]) rfl HD.out
      | true =>
        rw [hr] at hrt
        have HR := Lib.hid hrt
        have HE : Hid (R = some t1) := by show _ = _; rw [HP.out]; simp [hr]
        unfold tvV at HR
        clear hrt hr
        go_wp2_with fail
        refine HR.out.mono ?_
        rintro e w2 ⟨rfl, k2⟩
        have hb := HB1.out.keep k2 (by simp)
        have nc0 := hb.cell 0
        have nf0 := hb.frozen 0
        have nc1 := hb.cell 1
        have nf1 := hb.frozen 1
        have nc2 := hb.cell 2
        have nf2 := hb.frozen 2
        have nc3 := hb.cell 3
        have nf3 := hb.frozen 3
        have hg := HG.out.keep k2 (by simp)
        have mc0 := hg.cell 0
        have mf0 := hg.frozen 0
        have mc1 := hg.cell 1
        have mf1 := hg.frozen 1
        have mc2 := hg.cell 2
        have mf2 := hg.frozen 2
        have mc3 := hg.cell 3
        have mf3 := hg.frozen 3
        have HD := Lib.hid (RParseDone.some (o := R) (v := v1) HE.out ((HT1.out.keep k2).mono fun b hb => by simp at hb; omega) (HK1.out.trans k2) (.int .i64 v1.k) (.int .i64 v1.n) (.string v1.s) (.slice v1.A v1.len v1.c))
        unfold RParseDone at HD
        clear hb k2 hg
        go_wp2_with fail
        exact bodyPost_ret (v := .tuple #[.agg #[.int .i64 v1.k, .int .i64 v1.n, .string v1.s, .slice v1.A v1.len v1.c], .bool true]) (by simp [results, Tryz.results23, go_sem, *]) rfl HD.out
end Go.Proofs.YtnonfmaehfmigaaGreatDoor

/- Terms in words: the document's Text. -/
namespace Go.Proofs.YtnonfmaehfmigaaGreatDoor
open Go.RowKit

theorem tJoin_snoc (c : UInt8) : ∀ (l : List Txt) (a : Txt), l ≠ [] → tJoin c (l ++ [a]) = tJoin c l ++ c :: a
  | [], a, h => absurd rfl h
  | [x], a, _ => by simp [tJoin]
  | x :: y :: l, a, _ => by
    have ih := tJoin_snoc c (y :: l) a (by simp)
    rw [List.cons_append] at ih ⊢
    rw [List.cons_append, tJoin, ih, tJoin]
    simp
theorem tJoin_len (c : UInt8) : ∀ (l : List Txt) (j : Nat), (tJoin c (l.take j)).length ≤ (tJoin c l).length
  | [], j => by simp
  | [x], 0 => by simp [tJoin]
  | [x], j + 1 => by simp
  | x :: y :: l, 0 => by simp [tJoin]
  | x :: y :: l, 1 => by simp [tJoin]
  | x :: y :: l, j + 2 => by
    have ih := tJoin_len c (y :: l) (j + 1)
    rw [List.take_succ_cons] at ih ⊢
    rw [List.take_succ_cons, tJoin, tJoin, List.length_append, List.length_append, List.length_cons, List.length_cons]
    omega
set_option maxRecDepth 100000 in
set_option maxHeartbeats 3200000 in
theorem refText_any (t : Tm) : ∀ (v : TV) (w : World), Tr w (fun _ => True) t v → tRight t = true → tSize t ≤ 10000 → Calls Tryz.prog 25 #[tvV v] w fun e w' => e = .returned (.string (stB (tText t))) ∧ Keeps w w' [] := by
  induction t using Tm.ind_ with
  | h k n s l ih =>
    intro v w ht hrt hsz
    have htl := tText_few _ hrt
    cases ht with
    | mk _ _ _ _ A c vs hl hR hS hc hz hk =>
    rw [tRight, Bool.and_eq_true] at hrt
    obtain ⟨hall, hrt⟩ := hrt
    have HRt : Hid (∀ a ∈ l, tRight a = true) := (tRights_all l).1 hall
    have HSz : Hid (∀ a ∈ l, tSize a ≤ 10000) := fun a ha => by have := tSizes_mem ha; rw [tSize] at hsz; omega
    have HT : Hid (Trs w (fun _ => True) l vs) := ⟨hl, hk⟩
    have HR := Lib.hid hR
    have HI := Lib.hid ih
    obtain ⟨m, hm⟩ : ∃ m, l.length = m := ⟨_, rfl⟩
    have HM := Lib.hid hm
    have hmb : m ≤ 10000 := by have := tSizes_len l; rw [tSize] at hsz; omega
    have HTL : Hid ((tText (.mk k n s l)).length ≤ 440000) := by show _ ≤ _; omega
    clear hl hR hS hc hz hk ih hall htl hsz
    unfold tvV
    rw [hm] at hrt
    simp only [hm]
    clear hm
    have HB0 : Hid (Blk (w.alloc (.cells #[.int .i64 k, .int .i64 n, .string s, .slice A m c] 24)) w.heap.size 24 #[.int .i64 k, .int .i64 n, .string s, .slice A m c]) := Blk.new _ _ _
    have HK0 : Hid (Keeps w (w.alloc (.cells #[.int .i64 k, .int .i64 n, .string s, .slice A m c] 24)) []) := (Keeps.refl w []).alloc _
    go_enter Tryz.func25, Tryz.ntmps25
    by_cases h0 : k = 0
    · subst h0
      rw [if_pos rfl] at hrt
      simp only [Bool.and_eq_true, decide_eq_true_eq] at hrt
      obtain ⟨⟨⟨g0, g9⟩, g7⟩, g8⟩ := hrt
      clear g7 g8
      obtain ⟨nn, rfl⟩ := Int.eq_ofNat_of_zero_le g0
      have HV : Hid (tText (.mk 0 nn s l) = 88 :: Lib.decDigits nn) := by show _ = _; rw [tText, if_pos rfl, Int.toNat_natCast]
      have HI2 := Lib.hid (fun w' => num_any nn w' (by omega))
      have hadd := add_st (a := ⟨#[88]⟩) (b := digits nn) (c := stB (88 :: Lib.decDigits nn)) (stB_app [88] _) (by rw [show digits nn = stB (Lib.decDigits nn) from rfl, stB_size]; have := digits_len4 nn (by omega); have : (⟨#[88]⟩ : ByteArray).size = 1 := rfl; omega)
      go_wp2_with fail
      refine (HI2.out _).mono ?_
      rintro e w5 ⟨rfl, kd, rfl⟩
      go_wp2_with fail
      go_ret
      exact ⟨by rw [HV.out]; rfl, HK0.out.drewN kd⟩
    rw [if_neg h0] at hrt
    have e0 : (k == 0) = false := by simpa using h0
    by_cases h1 : k = 1
    · subst h1
      have HV : Hid (tText (.mk 1 n s l) = s.data.toList) := by show _ = _; rw [tText, if_neg (by omega), if_pos rfl]
      clear hrt
      go_wp2_with fail
      go_ret
      exact ⟨by rw [HV.out, stB_of]; rfl, HK0.out⟩
    rw [if_neg h1] at hrt
    have e1 : (k == 1) = false := by simpa using h1
    by_cases h3 : k = 3
    · subst h3
      simp at hrt
      obtain ⟨g7, hm2⟩ := hrt
      clear g7
      subst hm2
      obtain ⟨a, b, rfl⟩ : ∃ a b, l = [a, b] := by
        have := HM.out
        match l, this with
        | [a, b], _ => exact ⟨a, b, rfl⟩
      have hv : tText (.mk 3 n s [a, b]) = 91 :: (tText a ++ 124 :: (tText b ++ [93])) := by rw [tText, if_neg (by omega), if_neg (by omega), if_pos rfl]; simp [tTexts, tJoin]
      have hln := HTL.out
      rw [hv] at hln
      simp only [List.length_cons, List.length_append, List.length_nil] at hln
      have HV := Lib.hid hv
      clear hv
      obtain ⟨va, ba, oa, _, htra, rfl, hba, p0, p1, p2, p3⟩ := (HT.out.keep HK0.out).get (HR.out.keep HK0.out) (j := 0) (t := a) rfl
      obtain ⟨vb, bb, ob, _, htrb, hAb, _, r0, r1, r2, r3⟩ := (HT.out.keep HK0.out).get (HR.out.keep HK0.out) (j := 1) (t := b) rfl
      injection hAb with hAb
      injection hAb with hb1 hb2 hb3
      subst hb1
      subst hb2
      have HCa := Lib.hid (fun W' (kk : Keeps (w.alloc (.cells #[.int .i64 3, .int .i64 n, .string s, .slice (some ⟨ba, oa, none⟩) 2 c] 24)) W' []) => HI.out a (by simp) va W' (htra.keep kk) (HRt.out a (by simp)) (HSz.out a (by simp)))
      have HCb := Lib.hid (fun W' (kk : Keeps (w.alloc (.cells #[.int .i64 3, .int .i64 n, .string s, .slice (some ⟨ba, oa, none⟩) 2 c] 24)) W' []) => HI.out b (by simp) vb W' (htrb.keep kk) (HRt.out b (by simp)) (HSz.out b (by simp)))
      unfold tvV at HCa HCb
      have HW : Hid (∀ W', Keeps (w.alloc (.cells #[.int .i64 3, .int .i64 n, .string s, .slice (some ⟨ba, oa, none⟩) 2 c] 24)) W' [] → W'.cell? ⟨w.heap.size, 3, none⟩ = some (.slice (some ⟨ba, oa, none⟩) 2 c) ∧ W'.cell? ⟨ba, oa, none⟩ = some (.int .i64 va.k) ∧ W'.cell? ⟨ba, oa + 1, none⟩ = some (.int .i64 va.n) ∧ W'.cell? ⟨ba, oa + 2, none⟩ = some (.string va.s) ∧ W'.cell? ⟨ba, oa + 3, none⟩ = some (.slice va.A va.len va.c) ∧ W'.cell? ⟨ba, oa + 4, none⟩ = some (.int .i64 vb.k) ∧ W'.cell? ⟨ba, oa + 4 + 1, none⟩ = some (.int .i64 vb.n) ∧ W'.cell? ⟨ba, oa + 4 + 2, none⟩ = some (.string vb.s) ∧ W'.cell? ⟨ba, oa + 4 + 3, none⟩ = some (.slice vb.A vb.len vb.c)) := fun W' kk =>
        have f := fun (i : Nat) (v : Value) (h : (w.alloc (.cells #[.int .i64 3, .int .i64 n, .string s, .slice (some ⟨ba, oa, none⟩) 2 c] 24)).cell? ⟨ba, i, none⟩ = some v) => (kk.cell (p := ⟨ba, i, none⟩) hba (by simp)).trans h
        ⟨(HB0.out.keep kk (by simp)).cell 3, f _ _ (by simpa using p0), f _ _ (by simpa using p1), f _ _ (by simpa using p2), f _ _ (by simpa using p3), f _ _ (by simpa using r0), f _ _ (by simpa using r1), f _ _ (by simpa using r2), f _ _ (by simpa using r3)⟩
      clear p0 p1 p2 p3 r0 r1 r2 r3 htra htrb
      have z1 : (⟨#[91]⟩ : ByteArray).size = 1 := rfl
      have z2 : (⟨#[93]⟩ : ByteArray).size = 1 := rfl
      have z3 : (⟨#[124]⟩ : ByteArray).size = 1 := rfl
      have hadd := add_st (a := ⟨#[91]⟩) (b := stB (tText a)) (c := stB (91 :: tText a)) (stB_app [91] _) (by rw [stB_size]; omega)
      have hadd2 := add_st (a := stB (91 :: tText a)) (b := ⟨#[124]⟩) (c := stB (91 :: (tText a ++ [124]))) (by have := stB_app (91 :: tText a) [124]; rw [List.cons_append] at this; exact this) (by rw [stB_size, List.length_cons]; omega)
      have hadd3 := add_st (a := stB (91 :: (tText a ++ [124]))) (b := stB (tText b)) (c := stB (91 :: (tText a ++ 124 :: tText b))) (by rw [stB_app]; simp) (by rw [stB_size, stB_size, List.length_cons, List.length_append, List.length_singleton]; omega)
      have hadd4 := add_st (a := stB (91 :: (tText a ++ 124 :: tText b))) (b := ⟨#[93]⟩) (c := stB (91 :: (tText a ++ 124 :: (tText b ++ [93])))) (by have := stB_app (91 :: (tText a ++ 124 :: tText b)) [93]; simp only [List.append_assoc, List.cons_append] at this; exact this) (by rw [stB_size, List.length_cons, List.length_append, List.length_cons]; omega)
      go_wp2_with fail
      generalize hw0 : w.alloc (.cells #[.int .i64 3, .int .i64 n, .string s, .slice (some ⟨ba, oa, none⟩) 2 c] 24) = w0 at *
      clear HT HR HB0
      refine wp_region_tx (fun W' => W'.cell? ⟨w.heap.size, 3, none⟩ = some (.slice (some ⟨ba, oa, none⟩) 2 c) ∧ W'.cell? ⟨ba, oa, none⟩ = some (.int .i64 va.k) ∧ W'.cell? ⟨ba, oa + 1, none⟩ = some (.int .i64 va.n) ∧ W'.cell? ⟨ba, oa + 2, none⟩ = some (.string va.s) ∧ W'.cell? ⟨ba, oa + 3, none⟩ = some (.slice va.A va.len va.c) ∧ W'.cell? ⟨ba, oa + 4, none⟩ = some (.int .i64 vb.k) ∧ W'.cell? ⟨ba, oa + 4 + 1, none⟩ = some (.int .i64 vb.n) ∧ W'.cell? ⟨ba, oa + 4 + 2, none⟩ = some (.string vb.s) ∧ W'.cell? ⟨ba, oa + 4 + 3, none⟩ = some (.slice vb.A vb.len vb.c)) [(0, true), (1, true), (2, true), (3, true), (7, true), (8, true), (9, true), (10, true), (4, false), (5, true), (6, true), (11, false), (12, true), (13, true), (14, false)] (by kernel_rfl) (by kernel_rfl) (by exact HW.out _ (Keeps.refl _ []).drew) (fun hHeld => ?_)
      (repeat (first | (refine wpTx_take (v := ?_) rfl (by assumption) ?_ (by rfl) ?_; rotate_left; (focus (intro w' hSw; (try dsimp only at hSw); go_simp; (try with_reducible rfl); done)); simp only [Act.put, List.setIfInBounds_toArray, List.set_cons_zero, List.set_cons_succ]) | (refine wpTx_skip rfl (by assumption) (by rfl) ?_; simp only [Act.put, List.setIfInBounds_toArray, List.set_cons_zero, List.set_cons_succ])))
      refine wpTx_go rfl (fun K hK => ?_)
      go_simp
      refine (HCa.out _ (Keeps.refl _ []).drew).mono ?_
      rintro e w5 ⟨rfl, k5⟩
      have k5' : Keeps w0 w5 [] := (Keeps.refl _ []).drew.trans k5
      refine hK.out _ _ ?_ ?_
      · exact HW.out _ k5'
      (clear hHeld; intro hHeld; clear hK K; (try simp only [Act.put, List.setIfInBounds_toArray, List.set_cons_zero, List.set_cons_succ]))
      (repeat (first | (refine wpTx_take (v := ?_) rfl (by assumption) ?_ (by rfl) ?_; rotate_left; (focus (intro w' hSw; (try dsimp only at hSw); go_simp; (try with_reducible rfl); done)); simp only [Act.put, List.setIfInBounds_toArray, List.set_cons_zero, List.set_cons_succ]) | (refine wpTx_skip rfl (by assumption) (by rfl) ?_; simp only [Act.put, List.setIfInBounds_toArray, List.set_cons_zero, List.set_cons_succ])))
      refine wpTx_go rfl (fun K hK => ?_)
      go_simp
      refine (HCb.out _ k5').mono ?_
      rintro e w6 ⟨rfl, k6⟩
      refine hK.out _ _ ?_ ?_
      · exact HW.out _ (k5'.trans k6)
      (clear hHeld; intro hHeld; clear hK K; (try simp only [Act.put, List.setIfInBounds_toArray, List.set_cons_zero, List.set_cons_succ]))
      (repeat (first | (refine wpTx_take (v := ?_) rfl (by assumption) ?_ (by rfl) ?_; rotate_left; (focus (intro w' hSw; (try dsimp only at hSw); go_simp; (try with_reducible rfl); done)); simp only [Act.put, List.setIfInBounds_toArray, List.set_cons_zero, List.set_cons_succ]) | (refine wpTx_skip rfl (by assumption) (by rfl) ?_; simp only [Act.put, List.setIfInBounds_toArray, List.set_cons_zero, List.set_cons_succ])))
      refine wpTx_last rfl (fun K hK => ?_)
      go_simp
      refine hK.out _ _ (NoPanic.normal ?_); clear hK K; (try simp only [Act.put, List.setIfInBounds_toArray, List.set_cons_zero, List.set_cons_succ])
      go_wp2_with fail
      go_ret
      exact ⟨by rw [HV.out]; rfl, HK0.out.trans (k5'.trans k6)⟩
    · have e3 : (k == 3) = false := by simpa using h3
      have hv : tText (.mk k n s l) = s.data.toList ++ 40 :: (tJoin 44 (tTexts l) ++ [41]) := by rw [tText, if_neg h0, if_neg h1, if_neg h3]
      have hln := HTL.out
      rw [hv] at hln
      simp only [List.length_append, List.length_cons, List.length_nil] at hln
      have hss : s.data.toList.length = s.size := rfl
      have HV := Lib.hid hv
      have HLN := Lib.hid hln
      have z1 : (⟨#[40]⟩ : ByteArray).size = 1 := rfl
      have z2 : (⟨#[41]⟩ : ByteArray).size = 1 := rfl
      have z3 : (⟨#[44]⟩ : ByteArray).size = 1 := rfl
      have hadd := add_st (a := s) (b := ⟨#[40]⟩) (c := stB (s.data.toList ++ [40])) (by have := stB_app s.data.toList [40]; rw [stB_of] at this; exact this) (by omega)
      clear hv hrt
      go_wp2_with fail
      clear hadd
      go_loopw [3, 4] (fun x i wr => ∃ j : Nat, j ≤ m ∧ i = .int .i64 j ∧ x = .string (stB (s.data.toList ++ 40 :: tJoin 44 ((tTexts l).take j))) ∧ Blk wr w.heap.size 24 #[.int .i64 k, .int .i64 n, .string s, .slice A m c] ∧ Keeps w wr []) (fun _ i _ => m - (intOf i).toNat)
      case atStart => exact ⟨0, Nat.zero_le _, rfl, by simp [tJoin], HB0.out, HK0.out⟩
      case round =>
        clear HB0 HK0
        obtain ⟨j, hj, rfl, rfl, hb, hk⟩ := hrel
        have HB := Lib.hid hb
        have HK := Lib.hid hk
        have q3 := hb.cell 3
        clear hb hk
        by_cases hlt : j < m
        · obtain ⟨a, hx⟩ := at_of HM.out hlt
          have HX := Lib.hid hx
          have ha := List.mem_of_getElem? hx
          have htx : (tTexts l)[j]? = some (tText a) := by rw [tTexts_map, List.getElem?_map, hx]; rfl
          have htk : (tTexts l).take (j + 1) = (tTexts l).take j ++ [tText a] := by rw [List.take_add_one, htx]; rfl
          have hlen := tJoin_len 44 (tTexts l) (j + 1)
          obtain ⟨v', b, off, _, htr, rfl, hb, p0, p1, p2, p3⟩ := (HT.out.keep HK.out).get (HR.out.keep HK.out) hx
          have hca := HI.out a ha v' wr htr (HRt.out a ha) (HSz.out a ha)
          unfold tvV at hca
          have HC := Lib.hid hca
          have b0 : (0 : Int) ≤ (j : Int) := Int.natCast_nonneg _
          have b1 : (j : Int) < (m : Int) := by omega
          have hln := HLN.out
          by_cases hj0 : j = 0
          · have hjp : ¬ (0 : Int) < (j : Int) := by omega
            have e9 : (tTexts l).take j = [] := by rw [hj0]; rfl
            rw [htk, e9] at hlen
            have hN : s.data.toList ++ 40 :: tJoin 44 ((tTexts l).take (j + 1)) = (s.data.toList ++ 40 :: tJoin 44 ((tTexts l).take j)) ++ tText a := by rw [htk, e9]; simp [tJoin]
            simp [tJoin] at hlen
            have hadd := add_st (a := stB (s.data.toList ++ 40 :: tJoin 44 ((tTexts l).take j))) (b := stB (tText a)) (c := stB (s.data.toList ++ 40 :: tJoin 44 ((tTexts l).take (j + 1)))) (by rw [hN, stB_app]) (by rw [stB_size, stB_size, e9]; simp [tJoin]; omega)
            clear hca htr hx ha htx htk hlen hN hj0 e9
            go_wp2_with fail
            refine HC.out.mono ?_
            rintro e w4 ⟨rfl, k4⟩
            go_wp2_with fail
            go_roundw
            case rel => exact ⟨j + 1, by omega, by go_num, rfl, HB.out.keep k4 (by simp), HK.out.trans k4⟩
            case measure => simp [intOf]; omega
          · have hjp : (0 : Int) < (j : Int) := by omega
            have hne : (tTexts l).take j ≠ [] := by
              rw [tTexts_map]
              intro h
              have := congrArg List.length h
              rw [List.length_take, List.length_map, HM.out] at this
              simp at this
              omega
            have hjn := tJoin_snoc 44 ((tTexts l).take j) (tText a) hne
            rw [htk, hjn] at hlen
            simp only [List.length_append, List.length_cons] at hlen
            have hadd := add_st (a := stB (s.data.toList ++ 40 :: tJoin 44 ((tTexts l).take j))) (b := ⟨#[44]⟩) (c := stB (s.data.toList ++ 40 :: (tJoin 44 ((tTexts l).take j) ++ [44]))) (by have := stB_app (s.data.toList ++ 40 :: tJoin 44 ((tTexts l).take j)) [44]; simp only [List.append_assoc, List.cons_append] at this; exact this) (by rw [stB_size, List.length_append, List.length_cons]; omega)
            have hadd2 := add_st (a := stB (s.data.toList ++ 40 :: (tJoin 44 ((tTexts l).take j) ++ [44]))) (b := stB (tText a)) (c := stB (s.data.toList ++ 40 :: tJoin 44 ((tTexts l).take (j + 1)))) (by rw [htk, hjn, stB_app]; simp) (by rw [stB_size, stB_size, List.length_append, List.length_cons, List.length_append, List.length_singleton]; omega)
            clear hca htr hx ha htx htk hlen hne hjn hj0
            go_wp2_with fail
            refine HC.out.mono ?_
            rintro e w4 ⟨rfl, k4⟩
            go_wp2_with fail
            go_roundw
            case rel => exact ⟨j + 1, by omega, by go_num, rfl, HB.out.keep k4 (by simp), HK.out.trans k4⟩
            case measure => simp [intOf]; omega
        · obtain rfl : m = j := by omega
          have htk : (tTexts l).take m = tTexts l := List.take_of_length_le (by rw [tTexts_map, List.length_map, HM.out]; omega)
          rw [htk] at *
          have hln := HLN.out
          have hadd := add_st (a := stB (s.data.toList ++ 40 :: tJoin 44 (tTexts l))) (b := ⟨#[41]⟩) (c := stB (s.data.toList ++ 40 :: (tJoin 44 (tTexts l) ++ [41]))) (by have := stB_app (s.data.toList ++ 40 :: tJoin 44 (tTexts l)) [41]; simp only [List.append_assoc, List.cons_append] at this; exact this) (by rw [stB_size, List.length_append, List.length_cons]; omega)
          clear hlt hj
          go_wp2_with fail
          go_ret
          exact ⟨by rw [HV.out]; rfl, HK.out⟩
end Go.Proofs.YtnonfmaehfmigaaGreatDoor

/- Layer 5's told. Printed by gen_hptold.py. -/
namespace Go.Proofs.YtnonfmaehfmigaaGreatDoor
open Go.RowKit Go.Maps
def h1 : Tm := .mk 2 0 ⟨#[102]⟩ [.mk 0 0 ⟨#[]⟩ []]
theorem h1_right : tRight h1 = true := by kernel_rfl
theorem h1_size : tSize h1 = 2 := by kernel_rfl
theorem h1_parse : parseD [102, 40, 88, 48, 41] = some h1 := by kernel_rfl
theorem h1_text : stB (tText h1) = ⟨#[102, 40, 88, 48, 41]⟩ := by kernel_rfl
theorem h1_lay : (lay PH0 h1).2 = 9 ∧ (lay PH0 h1).1.cells.length = 3 ∧ (lay PH0 h1).1.funs.length = 1 := ⟨by kernel_rfl, by kernel_rfl, by kernel_rfl⟩
theorem h1_plc : tRn (plc (lay PH0 h1).1) h1 = h1 := by kernel_rfl
theorem h1_vars : ∀ n ∈ tV h1, n ≤ 999 := by
  intro n hn
  have : tV h1 = [0] := by kernel_rfl
  rw [this] at hn
  simp at hn
  omega
theorem h1_fit : FitR 9 (lay PH0 h1).1 := by
  have g := (lay_grow h1 PH0).1
  have hs := h1_size
  have e2 : PH0.atoms.length = 0 := rfl
  have e3 : PH0.funs.length = 0 := rfl
  have a2 := g.atoms
  have a3 := g.funs
  exact ⟨by rw [h1_lay.2.1]; omega, by omega, by omega⟩
theorem h1_rg : Rg (lay PH0 h1).1 9 h1 := by
  have h := (lay_ok h1 h1_right PH0 PH0.vi).2.2.2
  rw [h1_plc, h1_lay.1] at h
  exact h.rg (by omega : 9 ≤ 65536) h1_fit
theorem names_field0 (A : Option Addr) (n c : Nat) (A' : Option Addr) (n' c' : Nat) (w : World) : (Instr.field 65 (.agg #[.slice A n c, .slice A' n' c']) 0).run Tryz.prog w = .ok (.slice A n c) w := by kernel_rfl
theorem names_field1 (A : Option Addr) (n c : Nat) (A' : Option Addr) (n' c' : Nat) (w : World) : (Instr.field 65 (.agg #[.slice A n c, .slice A' n' c']) 1).run Tryz.prog w = .ok (.slice A' n' c') w := by kernel_rfl
set_option maxRecDepth 100000 in
set_option maxHeartbeats 3200000 in
theorem told5_any (w : World) (ht : Tab w) : Calls Tryz.prog 6 #[] w fun e w' => e = .returned (.bool true) ∧ Keeps w w' [] := by
  have HTa := Lib.hid ht
  have HPs : Hid (∀ w, Calls Tryz.prog 23 #[.string ⟨#[102, 40, 88, 48, 41]⟩] w fun e w' => ∃ v, e = .returned (.tuple #[.agg #[.int .i64 v.k, .int .i64 v.n, .string v.s, .slice v.A v.len v.c], .bool true]) ∧ Tr w' (fun b => w.heap.size ≤ b) h1 v ∧ Keeps w w' []) := fun w => by
    have h := refParse_any ⟨#[102, 40, 88, 48, 41]⟩ w
    have h2 : parseD ((⟨#[102, 40, 88, 48, 41]⟩ : ByteArray).data.toList) = some h1 := h1_parse
    rw [h2] at h
    exact h
  have HTo : Hid (∀ v w, Tr w (fun _ => True) h1 v → Calls Tryz.prog 11 #[.agg #[.int .i64 v.k, .int .i64 v.n, .string v.s, .slice v.A v.len v.c]] w (TDone [] (fun b => w.heap.size ≤ b) w h1)) := fun v w h => tmToW_any h1 v w h (tWid_of_right h1_right)
  have HFr : Hid (∀ v w, Tr w (fun _ => True) h1 v → Calls Tryz.prog 14 #[.agg #[.int .i64 v.k, .int .i64 v.n, .string v.s, .slice v.A v.len v.c]] w (TDone [] (fun b => w.heap.size ≤ b) w h1)) := fun v w h => tmFromW_any h1 v w h (tWid_of_right h1_right)
  have HTx : Hid (∀ v w, Tr w (fun _ => True) h1 v → Calls Tryz.prog 25 #[.agg #[.int .i64 v.k, .int .i64 v.n, .string v.s, .slice v.A v.len v.c]] w fun e w' => e = .returned (.string ⟨#[102, 40, 88, 48, 41]⟩) ∧ Keeps w w' []) := fun v w h => by
    have h2 := refText_any h1 v w h h1_right (by rw [h1_size]; omega)
    rw [h1_text] at h2
    exact h2
  have HCx : Hid (∀ w, Tab w → Calls Tryz.prog 24 #[.int .u64 9] w fun e w' => e = .returned (.string ⟨#[115, 116, 114, 32, 49]⟩) ∧ Keeps w w' []) := fun w ht => ctext9 w ht
  clear ht
  go_enter Tryz.func6, Tryz.ntmps6
  go_wp2_with fail
  refine (hnew_yes 9 w (by omega)).mono ?_
  rintro e w1 ⟨hb, L, rfl, hp, hL, k1⟩
  have HP1 := Lib.hid hp
  have HK1 := Lib.hid k1
  have HL1 := Lib.hid hL
  clear hp hL k1
  go_wp2_with fail
  refine (HPs.out _).mono ?_
  rintro e w2 ⟨v, rfl, hv, k2⟩
  have kk2 := k2.alloc (.cells #[.int .i64 v.k, .int .i64 v.n, .string v.s, .slice v.A v.len v.c] 24)
  have hB : Blk (w2.alloc (.cells #[.int .i64 v.k, .int .i64 v.n, .string v.s, .slice v.A v.len v.c] 24)) w2.heap.size 24 #[.int .i64 v.k, .int .i64 v.n, .string v.s, .slice v.A v.len v.c] := Blk.new _ _ _
  have HV := Lib.hid ((hv.mono (S' := fun _ => True) fun _ _ => trivial).keep ((Keeps.refl w2 []).alloc (.cells #[.int .i64 v.k, .int .i64 v.n, .string v.s, .slice v.A v.len v.c] 24)))
  have HP2 := Lib.hid (HP1.out.keep kk2 (by simp))
  have HK2 := Lib.hid (HK1.out.trans kk2)
  have b0 := hB.cell 0
  have b1 := hB.cell 1
  have b2 := hB.cell 2
  have b3 := hB.cell 3
  clear hv k2 kk2 hB
  go_wp2_with fail
  refine (HTo.out v _ HV.out).mono ?_
  rintro e w3 ⟨u, rfl, hu, k3⟩
  have hlt2 := HP2.out.lt
  have HBd := Lib.hid (build_any w.heap.size hb [] [] 9 h1 u w3 L PH0 (HP2.out.keep k3 (by simp)) PH0.vi.vb (hu.mono (fun b hb' hm => by have := hlt2 b hm; omega)) h1_right h1_fit)
  have HK3 := Lib.hid (HK2.out.trans k3)
  unfold tvV at HBd ⊢
  clear hu k3 b0 b1 b2 b3 hlt2
  go_wp2_with fail
  refine HBd.out.mono ?_
  rintro e w4 ⟨rfl, L4, hp4, st4⟩
  have HP4 := Lib.hid hp4
  have HK4 : Hid (Keeps w w4 []) := by
    have h := (HK3.out.to_ L).trans st4.keep
    exact Lib.hid (h.more fun b hb' hm => absurd (HL1.out b hm) (by omega))
  clear hp4 st4 HBd
  rw [h1_lay.1]
  obtain ⟨ag, ah, vb, AA, FA, TA, MA, ca, nt, ct, nm, cm, cf, _, hm4⟩ := HP4.out
  have HM4 := Lib.hid hm4
  have hok := (lay_hok (by omega : 9 ≤ 65536) h1 h1_right PH0 PH0.ok h1_fit).1
  have HRd := Lib.hid (hread_any hok hm4 9 (by omega) (by omega) (by decide +kernel))
  clear hm4 hok
  go_wp2_with fail
  refine HRd.out.mono ?_
  rintro e w5 ⟨u, er, rfl, k5, _, hrd⟩
  obtain ⟨rfl, hu⟩ := hrd h1 h1_rg (by rw [h1_size]; omega) h1_vars
  have kk5 := k5.alloc (.cells #[.int .i64 u.k, .int .i64 u.n, .string u.s, .slice u.A u.len u.c] 40)
  have HB5 : Hid (Blk (w5.alloc (.cells #[.int .i64 u.k, .int .i64 u.n, .string u.s, .slice u.A u.len u.c] 40)) w5.heap.size 40 #[.int .i64 u.k, .int .i64 u.n, .string u.s, .slice u.A u.len u.c]) := Blk.new _ _ _
  have HU5 := Lib.hid ((hu.mono (S' := fun _ => True) fun _ _ => trivial).keep ((Keeps.refl w5 []).alloc (.cells #[.int .i64 u.k, .int .i64 u.n, .string u.s, .slice u.A u.len u.c] 40)))
  have HM5 := Lib.hid (HM4.out.keep0 kk5)
  have HK5 := Lib.hid (HK4.out.trans kk5)
  unfold tvV
  clear hu k5 hrd kk5 HRd HP4
  go_upto_region 7 with fail
  generalize w5.alloc (.cells #[.int .i64 u.k, .int .i64 u.n, .string u.s, .slice u.A u.len u.c] 40) = w6 at *
  generalize w5.heap.size = tb at *
  go_wp2_with fail
  refine (HCx.out _ (HTa.out.keep HK5.out)).mono ?_
  rintro e w7 ⟨rfl, k7⟩
  have HK7 := Lib.hid k7
  clear k7
  go_wp2_with fail
  refine (hcells_any (HM5.out.keep0 HK7.out)).mono ?_
  rintro e w8 ⟨A8, c8, rfl, _, k8⟩
  have HK8 := Lib.hid (HK7.out.trans (Keeps.of_below k8 []))
  rw [h1_lay.2.1]
  have hB8 := HB5.out.keep HK8.out (by simp)
  have b0 := hB8.cell 0
  have b1 := hB8.cell 1
  have b2 := hB8.cell 2
  have b3 := hB8.cell 3
  clear k8 hB8
  go_wp2_with fail
  refine (HFr.out u _ (HU5.out.keep HK8.out)).mono ?_
  rintro e w9 ⟨x, rfl, hx, k9⟩
  have HX := Lib.hid (hx.mono (S' := fun _ => True) fun _ _ => trivial)
  have HK9 := Lib.hid (HK8.out.trans k9)
  unfold tvV
  clear hx k9 b0 b1 b2 b3
  go_wp2_with fail
  refine (HTx.out x _ HX.out).mono ?_
  rintro e w10 ⟨rfl, k10⟩
  have HK10 := Lib.hid (HK9.out.trans k10)
  clear k10
  go_wp2_with fail
  refine (hnames_any (HM5.out.keep0 HK10.out)).mono ?_
  rintro e w11 ⟨A, c, A', c', rfl, _, _, k11⟩
  rw [h1_lay.2.2]
  have hfield := names_field1
  have HK11 := Lib.hid (HK5.out.trans (HK10.out.trans k11))
  clear k11
  go_wp2_with fail
  go_ret
  exact ⟨rfl, HK11.out⟩
end Go.Proofs.YtnonfmaehfmigaaGreatDoor

/- Renaming: the program's. Printed by gen_mgren.py a. -/
namespace Go.Proofs.YtnonfmaehfmigaaGreatDoor
open Go.RowKit

end Go.Proofs.YtnonfmaehfmigaaGreatDoor

/- Renaming: the document's. Printed by gen_mgren.py b. -/
namespace Go.Proofs.YtnonfmaehfmigaaGreatDoor
open Go.RowKit

theorem TSt.setN {tg : TypeId} {S0 : Nat → Prop} {w wr : World} {L : List Nat} {F : List (Nat × TypeId × Array Value)} {g : Nat} {k n : Int} {s : ByteArray} (st : TSt tg S0 w wr L F g k n s [] [] none 0 0) (n' : Int) : TSt tg S0 w (wr.setCell ⟨g, 1, none⟩ (.int .i64 n')) L F g k n' s [] [] none 0 0 :=
  TSt.start (fun x hx => ⟨(st.fix x hx).1.far (st.fix x hx).2.2 _, (st.fix x hx).2.2⟩) (by have h := st.out.set_ 1 (.int .i64 n'); simpa using h) (st.keep.setCell (.inr st.low.1) _) st.low.1 st.low.2.2 st.sz
/-- The number so far. -/
def curN (kf : Int) (vars : List Int) (n : Int) (i : Nat) : Int := if n ∈ vars.take i then ren kf vars n else n
theorem curN_same {kf : Int} {vars : List Int} {n x : Int} {i : Nat} (hx : vars[i]? = some x) (h : x ≠ n) : curN kf vars n (i + 1) = curN kf vars n i := by
  unfold curN
  have : n ∈ vars.take (i + 1) ↔ n ∈ vars.take i := by
    rw [List.take_add_one, hx, List.mem_append]
    simp [Ne.symm h]
  simp only [this]
theorem curN_here {kf : Int} {vars : List Int} {n : Int} {i : Nat} (hd : vars.Nodup) (hx : vars[i]? = some n) : curN kf vars n (i + 1) = kf + i := by
  unfold curN
  rw [if_pos (by rw [List.take_add_one, hx]; simp)]
  unfold ren
  rw [findI_some (k := i) hx (by simp [hasI]) fun y hy => ?_]
  have : y ≠ n := by
    rintro rfl
    obtain ⟨hi, he⟩ := List.getElem?_eq_some_iff.1 hx
    obtain ⟨q, hq, hqe⟩ := List.getElem_of_mem hy
    rw [List.length_take] at hq
    rw [List.getElem_take] at hqe
    have := (List.getElem_inj hd).1 (hqe.trans he.symm)
    omega
  unfold hasI
  simpa using Ne.symm this
theorem curN_end {kf : Int} {vars : List Int} {n : Int} (h : n ∈ vars) : curN kf vars n vars.length = ren kf vars n := by
  unfold curN
  rw [List.take_length, if_pos h]
set_option maxRecDepth 100000 in
set_option maxHeartbeats 6400000 in
theorem refRename_any (kf : Int) (k0 : 0 ≤ kf) (k9 : kf ≤ 1000000) (VA : Option Addr) (vn vc : Nat) (vars : List Int) (hvl : vars.length = vn) (hvn : vn ≤ 1000000) (hnd : vars.Nodup) (t : Tm) : ∀ (v : TV) (w : World) (S : Nat → Prop), (∀ b, S b → b < w.heap.size) → Tr w S t v → tRight t = true → (∀ x ∈ tV t, x ∈ vars) → Nums .i64 w w.heap.size VA vars →
    Calls Tryz.prog 74 #[.int .i64 kf, .slice VA vn vc, tvV v] w (ApDone S w (tRn (ren kf vars) t)) := by
  induction t using Tm.ind_ with
  | h k n s l ih =>
    intro v w S hSl ht hrt hin hN
    have hw := tWid_of_right hrt
    cases ht with
    | mk _ _ _ _ A c vs hl hR hS hc hz hk =>
    rw [tWid] at hw
    have HT : Hid (Trs w S l vs) := ⟨hl, hk⟩
    have HR := Lib.hid hR
    have HZ := Lib.hid hz.1
    have HSl := Lib.hid hSl
    have HN := Lib.hid hN
    have HRt := Lib.hid hrt
    have HIn := Lib.hid hin
    have HND := Lib.hid hnd
    have HVl := Lib.hid hvl
    have HCall : Hid (∀ a ∈ l, ∀ (v' : TV) w', Keeps w w' [] → Tr w' S a v' → Calls Tryz.prog 74 #[.int .i64 kf, .slice VA vn vc, .agg #[.int .i64 v'.k, .int .i64 v'.n, .string v'.s, .slice v'.A v'.len v'.c]] w' (ApDone S w' (tRn (ren kf vars) a))) := fun a ha v' w' k' ht' => by
      have h0 : k ≠ 0 := by
        rintro rfl
        obtain ⟨e, _, _⟩ := right_var hrt
        obtain ⟨_, _, _, rfl⟩ := Tm.mk.inj e
        cases ha
      exact ih a ha v' w' S (fun b hb => Nat.lt_of_lt_of_le (hSl b hb) k'.size) ht' (right_parts hrt a ha) (fun x hx => hin x (by rw [tV, if_neg h0]; exact mem_tVL.2 ⟨a, ha, hx⟩)) ((hN.keep (w' := w') fun p hp => k'.cell hp (by simp)).more k'.size)
    obtain ⟨m, hm⟩ : ∃ m, l.length = m := ⟨_, rfl⟩
    have HM := Lib.hid hm
    have hmb : m ≤ 1000000 := by rw [← hm]; exact hw.1
    clear hl hR hS hc hz hk ih hw hSl hN hrt hin hnd hvl
    unfold tvV
    simp only [hm]
    clear hm
    by_cases h0 : k = 0
    · have e0 : (k == 0) = true := by simpa using h0
      have HG : Hid (tRn (ren kf vars) (.mk k n s l) = .mk k (ren kf vars n) s (l.map (tRn (ren kf vars)))) := tRn_var _ s l h0
      have HNi : Hid (n ∈ vars) := HIn.out n (by rw [tV, if_pos h0]; simp)
      clear h0
      have hbx : Blk (w.alloc (.cells #[.int .i64 k, .int .i64 n, .string s, .slice A m c] 24)) w.heap.size 24 #[.int .i64 k, .int .i64 n, .string s, .slice A m c] := Blk.new _ _ _
      have hrb : Blk ((w.alloc (.cells #[.int .i64 k, .int .i64 n, .string s, .slice A m c] 24)).alloc (.cells #[.int .i64 0, .int .i64 0, .string ⟨#[]⟩, .slice none 0 0] 24)) (w.heap.size + 1) 24 #[.int .i64 0, .int .i64 0, .string ⟨#[]⟩, .slice none 0 0] := Blk.newAt _ _ (by simp)
      have hK : Keeps w (((w.alloc (.cells #[.int .i64 k, .int .i64 n, .string s, .slice A m c] 24)).alloc (.cells #[.int .i64 0, .int .i64 0, .string ⟨#[]⟩, .slice none 0 0] 24)).alloc (.cells #[.int .i64 k, .int .i64 n, .string s, .slice none 0 0] 24)) [] := (((Keeps.refl w []).alloc _).alloc _).alloc _
      obtain ⟨g, hg⟩ : ∃ g, w.heap.size + 1 + 1 = g := ⟨_, rfl⟩
      have hst : TSt 24 (fun b => S b ∨ w.heap.size ≤ b) w (((w.alloc (.cells #[.int .i64 k, .int .i64 n, .string s, .slice A m c] 24)).alloc (.cells #[.int .i64 0, .int .i64 0, .string ⟨#[]⟩, .slice none 0 0] 24)).alloc (.cells #[.int .i64 k, .int .i64 n, .string s, .slice none 0 0] 24)) [] [(w.heap.size, 24, #[.int .i64 k, .int .i64 n, .string s, .slice A m c]), (w.heap.size + 1, 24, #[.int .i64 0, .int .i64 0, .string ⟨#[]⟩, .slice none 0 0])] g k n s [] [] none 0 0 :=
        TSt.start (by
          intro x hx
          simp only [List.mem_cons, List.not_mem_nil, or_false] at hx
          rcases hx with rfl | rfl
          · exact ⟨(hbx.alloc _).alloc _, by simp; omega⟩
          · exact ⟨hrb.alloc _, by simp; omega⟩) (Blk.newAt _ _ (by simp; omega)) hK (by omega) (fun b h => .inr h) HZ.out
      have HST := Lib.hid hst
      clear hbx hrb hK hst
      have HK0 : Hid (Keeps w (((w.alloc (.cells #[.int .i64 k, .int .i64 n, .string s, .slice A m c] 24)).alloc (.cells #[.int .i64 0, .int .i64 0, .string ⟨#[]⟩, .slice none 0 0] 24)).alloc (.cells #[.int .i64 k, .int .i64 n, .string s, .slice none 0 0] 24)) []) := (((Keeps.refl w []).alloc _).alloc _).alloc _
      go_enter Tryz.func74, Tryz.ntmps74
      go_wp2_with fail
      go_loopw [8] (fun x8 wr => ∃ i : Nat, i ≤ vn ∧ x8 = .int .i64 i ∧ TSt 24 (fun b => S b ∨ w.heap.size ≤ b) w wr [] [(w.heap.size, 24, #[.int .i64 k, .int .i64 n, .string s, .slice A m c]), (w.heap.size + 1, 24, #[.int .i64 0, .int .i64 0, .string ⟨#[]⟩, .slice none 0 0])] g k (curN kf vars n i) s [] [] none 0 0) (fun x8 _ => vn - (intOf x8).toNat)
      case atStart => exact ⟨0, Nat.zero_le _, rfl, by have h1 := HST.out; unfold curN; simpa using h1⟩
      case round =>
        clear HST HK0
        obtain ⟨i, hi, rfl, st⟩ := hrel
        have HS := Lib.hid st
        have e1 := (st.fix _ (List.mem_cons_self ..)).1.cell 0
        have e2 := (st.fix _ (List.mem_cons_self ..)).1.cell 1
        have e3 := (st.fix _ (List.mem_cons_self ..)).1.cell 3
        have i0 : (0 : Int) ≤ (i : Int) := Int.natCast_nonneg _
        by_cases hlt : i < vn
        · obtain ⟨b, off, x, rfl, hb, hc, hx⟩ := HN.out i (by rw [HVl.out]; exact hlt)
          have hcr := (st.keep.cell0 hb).trans hc
          have HX := Lib.hid hx
          have i1 : (i : Int) < (vn : Int) := by omega
          have i2 : wrap64 (kf + (i : Int)) = kf + (i : Int) := by unfold wrap64; omega
          have i3 : IntKind.i64.wrap (kf + (i : Int)) = kf + (i : Int) := by simp only [IntKind.wrap_i64]; omega
          clear hx hc st hb
          by_cases hxn : x = n
          · have hq : (x == n) = true := by simpa using hxn
            have HX2 : Hid (vars[i]? = some n) := by rw [← hxn]; exact HX
            have HC2 : Hid (curN kf vars n (i + 1) = kf + (i : Int)) := curN_here HND.out HX2.out
            have o1 := HS.out.out.frozen 1
            have o2 := HS.out.out.cell 1
            have HS2 := Lib.hid ((HS.out.setN (kf + (i : Int))).keep0 (Keeps.refl _ []).drew)
            clear hxn
            go_upto_region 5 with fail
            refine wp_region_tx (fun W' => W'.cell? ⟨b, off + i, none⟩ = some (.int .i64 x) ∧ W'.cell? ⟨w.heap.size, 1, none⟩ = some (.int .i64 n)) [(0, true), (1, true), (2, true), (3, true), (4, true), (5, true), (6, false)] (by kernel_rfl) (by kernel_rfl) ⟨hcr, e2⟩ (fun hHeld => ?_)
            (repeat (first | (refine wpTx_take (v := ?_) rfl (by assumption) ?_ (by rfl) ?_; rotate_left; (focus (intro w' hSw; (try dsimp only at hSw); go_simp; (try with_reducible rfl); done)); simp only [Act.put, List.setIfInBounds_toArray, List.set_cons_zero, List.set_cons_succ]) | (refine wpTx_skip rfl (by assumption) (by rfl) ?_; simp only [Act.put, List.setIfInBounds_toArray, List.set_cons_zero, List.set_cons_succ])))
            refine wpTx_last rfl (fun K hK => ?_)
            go_simp
            refine hK.out _ _ (NoPanic.normal ?_); clear hK K; (try simp only [Act.put, List.setIfInBounds_toArray, List.set_cons_zero, List.set_cons_succ])
            clear e1 e2 e3 hcr
            go_wp2_with fail
            go_roundw
            case rel => exact ⟨i + 1, by omega, by go_num, by rw [HC2.out]; exact HS2.out⟩
            case measure => simp [intOf]; omega
          · have hq : (x == n) = false := by simpa using hxn
            have HC2 : Hid (curN kf vars n (i + 1) = curN kf vars n i) := curN_same HX.out hxn
            clear hxn
            go_upto_region 5 with fail
            refine wp_region_tx (fun W' => W'.cell? ⟨b, off + i, none⟩ = some (.int .i64 x) ∧ W'.cell? ⟨w.heap.size, 1, none⟩ = some (.int .i64 n)) [(0, true), (1, true), (2, true), (3, true), (4, true), (5, true), (6, false)] (by kernel_rfl) (by kernel_rfl) ⟨hcr, e2⟩ (fun hHeld => ?_)
            (repeat (first | (refine wpTx_take (v := ?_) rfl (by assumption) ?_ (by rfl) ?_; rotate_left; (focus (intro w' hSw; (try dsimp only at hSw); go_simp; (try with_reducible rfl); done)); simp only [Act.put, List.setIfInBounds_toArray, List.set_cons_zero, List.set_cons_succ]) | (refine wpTx_skip rfl (by assumption) (by rfl) ?_; simp only [Act.put, List.setIfInBounds_toArray, List.set_cons_zero, List.set_cons_succ])))
            refine wpTx_last rfl (fun K hK => ?_)
            go_simp
            refine hK.out _ _ (NoPanic.normal ?_); clear hK K; (try simp only [Act.put, List.setIfInBounds_toArray, List.set_cons_zero, List.set_cons_succ])
            clear e1 e2 e3 hcr
            go_wp2_with fail
            go_roundw
            case rel => exact ⟨i + 1, by omega, by go_num, by rw [HC2.out]; exact HS.out.keep0 (Keeps.refl _ []).drew⟩
            case measure => simp [intOf]; omega
        · obtain rfl : vn = i := by omega
          have HST : Hid (TSt 24 (fun b => S b ∨ w.heap.size ≤ b) w wr [] [(w.heap.size, 24, #[.int .i64 k, .int .i64 n, .string s, .slice A m c]), (w.heap.size + 1, 24, #[.int .i64 0, .int .i64 0, .string ⟨#[]⟩, .slice none 0 0])] g k (ren kf vars n) s [] [] none 0 0) := by
            have h1 := HS.out
            have h2 := curN_end (kf := kf) HNi.out
            rw [HVl.out] at h2
            rw [h2] at h1
            exact h1
          clear hlt hi st HS
          go_wp2_with fail
          clear e1 e2 e3
          go_loopw [9] (fun i wr => ∃ j : Nat, j ≤ m ∧ i = .int .i64 j ∧ ∃ A2 c2 us, TSt 24 (fun b => S b ∨ w.heap.size ≤ b) w wr [] [(w.heap.size, 24, #[.int .i64 k, .int .i64 n, .string s, .slice A m c]), (w.heap.size + 1, 24, #[.int .i64 0, .int .i64 0, .string ⟨#[]⟩, .slice none 0 0])] g k (ren kf vars n) s ((l.take j).map (tRn (ren kf vars))) us A2 j c2) (fun i _ => m - (intOf i).toNat)
          case atStart => exact ⟨0, Nat.zero_le _, rfl, none, 0, [], HST.out⟩
          case round =>
            obtain ⟨j, hj, rfl, A2, c2, us, st⟩ := hrel
            have HS := Lib.hid st
            have e1 := (st.fix _ (List.mem_cons_self ..)).1.cell 3
            clear st HST
            by_cases hlt : j < m
            · obtain ⟨a, hx⟩ := at_of HM.out hlt
              have HX := Lib.hid hx
              have ha := List.mem_of_getElem? hx
              obtain ⟨v', b, off, _, htr, rfl, hb, p0, p1, p2, p3⟩ := HT.out.get HR.out hx
              have HC : Hid (∀ w', Keeps w w' [] → Calls Tryz.prog 74 #[.int .i64 kf, .slice VA vn vc, .agg #[.int .i64 v'.k, .int .i64 v'.n, .string v'.s, .slice v'.A v'.len v'.c]] w' (ApDone S w' (tRn (ren kf vars) a))) := fun w' kk => HCall.out a ha v' w' kk (htr.keep kk)
              clear htr hx ha
              have HW : Hid (∀ W', Keeps wr W' (ownL (.slice A2 j c2)) → W'.frozen? ⟨g, 3, none⟩ = false ∧ W'.cell? ⟨g, 3, none⟩ = some (.slice A2 j c2) ∧ W'.cell? ⟨w.heap.size, 3, none⟩ = some (.slice (some ⟨b, off, none⟩) m c) ∧ W'.cell? ⟨b, off + j * 4, none⟩ = some (.int .i64 v'.k) ∧ W'.cell? ⟨b, off + j * 4 + 1, none⟩ = some (.int .i64 v'.n) ∧ W'.cell? ⟨b, off + j * 4 + 2, none⟩ = some (.string v'.s) ∧ W'.cell? ⟨b, off + j * 4 + 3, none⟩ = some (.slice v'.A v'.len v'.c)) := fun W' kk =>
                have kc : ∀ i x, w.cell? ⟨b, i, none⟩ = some x → W'.cell? ⟨b, i, none⟩ = some x := fun i x hx => ((kk.cell (p := ⟨b, i, none⟩) (Nat.lt_of_lt_of_le hb HS.out.keep.size) (own_out HS.out.row hb)).trans (HS.out.keep.cell0 hb)).trans hx
                ⟨(HS.out.out.keep kk HS.out.low.2.1).frozen 3, (HS.out.out.keep kk HS.out.low.2.1).cell 3, ((HS.out.fix _ (List.mem_cons_self ..)).1.keep kk (HS.out.fix _ (List.mem_cons_self ..)).2.1).cell 3, kc _ _ p0, kc _ _ p1, kc _ _ p2, kc _ _ p3⟩
              obtain ⟨q0, q1, q2, q3, q4, q5, q6⟩ := HW.out wr (Keeps.refl _ _)
              clear e1 p0 p1 p2 p3
              have b0 : (0 : Int) ≤ (j : Int) := Int.natCast_nonneg _
              have b1 : (j : Int) < (m : Int) := by omega
              go_wp2_with fail
              have HS1 := HS
              refine wp_region_tx (fun W' => W'.frozen? ⟨g, 3, none⟩ = false ∧ W'.cell? ⟨g, 3, none⟩ = some (.slice A2 j c2) ∧ W'.cell? ⟨w.heap.size, 3, none⟩ = some (.slice (some ⟨b, off, none⟩) m c) ∧ W'.cell? ⟨b, off + j * 4, none⟩ = some (.int .i64 v'.k) ∧ W'.cell? ⟨b, off + j * 4 + 1, none⟩ = some (.int .i64 v'.n) ∧ W'.cell? ⟨b, off + j * 4 + 2, none⟩ = some (.string v'.s) ∧ W'.cell? ⟨b, off + j * 4 + 3, none⟩ = some (.slice v'.A v'.len v'.c)) [(0, true), (1, true), (2, true), (3, true), (4, true), (5, true), (6, true), (7, true), (8, true), (9, false), (10, false), (11, false), (12, true), (13, false)] (by kernel_rfl) (by kernel_rfl) (HW.out _ ((Keeps.refl _ _).drew)) (fun hHeld => ?_)
              (repeat (first | (refine wpTx_take (v := ?_) rfl (by assumption) ?_ (by rfl) ?_; rotate_left; (focus (intro w' hSw; (try dsimp only at hSw); go_simp; (try with_reducible rfl); done)); simp only [Act.put, List.setIfInBounds_toArray, List.set_cons_zero, List.set_cons_succ]) | (refine wpTx_skip rfl (by assumption) (by rfl) ?_; simp only [Act.put, List.setIfInBounds_toArray, List.set_cons_zero, List.set_cons_succ])))
              refine wpTx_go rfl (fun K hK => ?_)
              go_simp
              refine (HC.out _ (HS1.out.keep.drew)).mono ?_
              rintro e w3 ⟨u, rfl, hu, k3⟩
              have HU : Hid (Tr w3 (fun b => S b ∨ wr.heap.size ≤ b) ((tRn (ren kf vars)) a) u) := hu
              unfold tvV
              clear hu
              refine hK.out _ _ ?_ ?_
              · exact HW.out _ (((Keeps.refl _ []).drew.trans k3).to_ _)
              (clear hHeld; intro hHeld; clear hK K; (try simp only [Act.put, List.setIfInBounds_toArray, List.set_cons_zero, List.set_cons_succ]))
              refine wpTx_go rfl (fun K hK => ?_)
              go_simp
              refine hK.out _ _ ?_ ?_
              · exact HW.out _ ((((Keeps.refl _ []).drew.trans k3).alloc _).to_ _)
              (clear hHeld; intro hHeld; clear hK K; (try simp only [Act.put, List.setIfInBounds_toArray, List.set_cons_zero, List.set_cons_succ]))
              refine wpTx_go rfl (fun K hK => ?_)
              refine step_app _ el_rterm (by rfl) _ _ (by rfl) w.heap.size A2 j c2 (us.flatMap tvE) (by rfl) (own_keep0 HS1.out.row (((Keeps.refl _ []).drew.trans k3).alloc _)) (some ⟨w3.heap.size, 0, none⟩) 1 1 (tvE u) (by rfl) (Rd.one w3 _ (tvE u)) rfl (by simp) (by simp [tvE, Value.oneCell']) (by omega) (by simp; have := HS1.out.keep.size; have := k3.size; simp at this; omega) ?_
              intro A' c' w2 hown hgrow hat
              refine hK.out _ _ ?_ ?_
              · exact HW.out _ (((Keeps.refl _ []).drew.trans k3).alloc _ |>.rest (Keeps.ofGrown hgrow))
              (clear hHeld; intro hHeld; clear hK K; (try simp only [Act.put, List.setIfInBounds_toArray, List.set_cons_zero, List.set_cons_succ]))
              (repeat (first | (refine wpTx_take (v := ?_) rfl (by assumption) ?_ (by rfl) ?_; rotate_left; (focus (intro w' hSw; (try dsimp only at hSw); go_simp; (try with_reducible rfl); done)); simp only [Act.put, List.setIfInBounds_toArray, List.set_cons_zero, List.set_cons_succ]) | (refine wpTx_skip rfl (by assumption) (by rfl) ?_; simp only [Act.put, List.setIfInBounds_toArray, List.set_cons_zero, List.set_cons_succ])))
              refine wpTx_last rfl (fun K hK => ?_)
              go_simp
              refine hK.out _ _ (NoPanic.normal ?_); clear hK K; (try simp only [Act.put, List.setIfInBounds_toArray, List.set_cons_zero, List.set_cons_succ])
              go_wp2_with fail
              go_roundw
              case rel =>
                have hs := HS1.out.step (((Keeps.refl _ []).drew.trans k3).alloc _) (HS1.out.part HSl.out (by simp) ((HU.out).keep ((Keeps.refl _ []).alloc _))) hown hgrow hat
                rw [show (l.take j).map (tRn (ren kf vars)) ++ [(tRn (ren kf vars)) a] = (l.take (j + 1)).map (tRn (ren kf vars)) by rw [List.take_add_one, HX.out, List.map_append]; rfl] at hs
                exact ⟨j + 1, by omega, by go_num, A', c', _, hs⟩
              case measure => simp [intOf]; omega
            · obtain rfl : m = j := by omega
              have hd := HS.out.done (by omega)
              rw [show (l.take m).map (tRn (ren kf vars)) = l.map (tRn (ren kf vars)) by rw [← HM.out, List.take_length]] at hd
              have hr := (HS.out.fix (w.heap.size + 1, 24, #[.int .i64 0, .int .i64 0, .string ⟨#[]⟩, .slice none 0 0]) (by simp)).1
              have d0 := HS.out.out.cell 0
              have d1 := HS.out.out.cell 1
              have d2 := HS.out.out.cell 2
              have d3 := HS.out.out.cell 3
              have r0 := hr.cell 0
              have r1 := hr.cell 1
              have r2 := hr.cell 2
              have r3 := hr.cell 3
              have f0 := hr.frozen 0
              have f1 := hr.frozen 1
              have f2 := hr.frozen 2
              have f3 := hr.frozen 3
              have HD := Lib.hid ((hd.mono (S' := fun b => (S b ∨ w.heap.size ≤ b) ∧ b ≠ w.heap.size + 1) fun b hb => ⟨hb.1, hb.2.2 (w.heap.size + 1, 24, #[.int .i64 0, .int .i64 0, .string ⟨#[]⟩, .slice none 0 0]) (by simp)⟩).end4 (.int .i64 k) (.int .i64 (ren kf vars n)) (.string s) (.slice A2 m c2) HS.out.keep (by omega))
              clear hd hr hlt hj
              go_wp2_with fail
              exact bodyPost_ret (v := .agg #[.int .i64 k, .int .i64 (ren kf vars n), .string s, .slice A2 m c2]) (by simp [results, Tryz.results74, go_sem, *]) rfl (by rw [HG.out]; exact HD.out)
    · have e0 : (k == 0) = false := by simpa using h0
      have HG : Hid (tRn (ren kf vars) (.mk k n s l) = .mk k n s (l.map (tRn (ren kf vars)))) := tRn_node _ s l h0
      have hbx : Blk (w.alloc (.cells #[.int .i64 k, .int .i64 n, .string s, .slice A m c] 24)) w.heap.size 24 #[.int .i64 k, .int .i64 n, .string s, .slice A m c] := Blk.new _ _ _
      have hrb : Blk ((w.alloc (.cells #[.int .i64 k, .int .i64 n, .string s, .slice A m c] 24)).alloc (.cells #[.int .i64 0, .int .i64 0, .string ⟨#[]⟩, .slice none 0 0] 24)) (w.heap.size + 1) 24 #[.int .i64 0, .int .i64 0, .string ⟨#[]⟩, .slice none 0 0] := Blk.newAt _ _ (by simp)
      have hK : Keeps w (((w.alloc (.cells #[.int .i64 k, .int .i64 n, .string s, .slice A m c] 24)).alloc (.cells #[.int .i64 0, .int .i64 0, .string ⟨#[]⟩, .slice none 0 0] 24)).alloc (.cells #[.int .i64 k, .int .i64 n, .string s, .slice none 0 0] 24)) [] := (((Keeps.refl w []).alloc _).alloc _).alloc _
      obtain ⟨g, hg⟩ : ∃ g, w.heap.size + 1 + 1 = g := ⟨_, rfl⟩
      have hst : TSt 24 (fun b => S b ∨ w.heap.size ≤ b) w (((w.alloc (.cells #[.int .i64 k, .int .i64 n, .string s, .slice A m c] 24)).alloc (.cells #[.int .i64 0, .int .i64 0, .string ⟨#[]⟩, .slice none 0 0] 24)).alloc (.cells #[.int .i64 k, .int .i64 n, .string s, .slice none 0 0] 24)) [] [(w.heap.size, 24, #[.int .i64 k, .int .i64 n, .string s, .slice A m c]), (w.heap.size + 1, 24, #[.int .i64 0, .int .i64 0, .string ⟨#[]⟩, .slice none 0 0])] g k n s [] [] none 0 0 :=
        TSt.start (by
          intro x hx
          simp only [List.mem_cons, List.not_mem_nil, or_false] at hx
          rcases hx with rfl | rfl
          · exact ⟨(hbx.alloc _).alloc _, by simp; omega⟩
          · exact ⟨hrb.alloc _, by simp; omega⟩) (Blk.newAt _ _ (by simp; omega)) hK (by omega) (fun b h => .inr h) HZ.out
      have HST := Lib.hid hst
      clear hbx hrb hK hst
      have e1 := (HST.out.fix _ (List.mem_cons_self ..)).1.cell 0
      go_enter Tryz.func74, Tryz.ntmps74
      go_wp2_with fail
      go_loopw [8] (fun x8 wr => x8 = .int .i64 0 ∧ TSt 24 (fun b => S b ∨ w.heap.size ≤ b) w wr [] [(w.heap.size, 24, #[.int .i64 k, .int .i64 n, .string s, .slice A m c]), (w.heap.size + 1, 24, #[.int .i64 0, .int .i64 0, .string ⟨#[]⟩, .slice none 0 0])] g k n s [] [] none 0 0) (fun _ _ => 0)
      case atStart => exact ⟨rfl, HST.out⟩
      case round =>
        clear HST e1
        obtain ⟨rfl, st⟩ := hrel
        have HST := Lib.hid st
        have e1 := (st.fix _ (List.mem_cons_self ..)).1.cell 0
        have e3 := (st.fix _ (List.mem_cons_self ..)).1.cell 3
        clear st
        by_cases hv0 : 0 < vn
        · have i1 : (0 : Int) < (vn : Int) := by omega
          go_wp2_with fail
          clear e1 e3 i1 hv0
          go_loopw [9] (fun i wr => ∃ j : Nat, j ≤ m ∧ i = .int .i64 j ∧ ∃ A2 c2 us, TSt 24 (fun b => S b ∨ w.heap.size ≤ b) w wr [] [(w.heap.size, 24, #[.int .i64 k, .int .i64 n, .string s, .slice A m c]), (w.heap.size + 1, 24, #[.int .i64 0, .int .i64 0, .string ⟨#[]⟩, .slice none 0 0])] g k n s ((l.take j).map (tRn (ren kf vars))) us A2 j c2) (fun i _ => m - (intOf i).toNat)
          case atStart => exact ⟨0, Nat.zero_le _, rfl, none, 0, [], HST.out⟩
          case round =>
            obtain ⟨j, hj, rfl, A2, c2, us, st⟩ := hrel
            have HS := Lib.hid st
            have e1 := (st.fix _ (List.mem_cons_self ..)).1.cell 3
            clear st HST
            by_cases hlt : j < m
            · obtain ⟨a, hx⟩ := at_of HM.out hlt
              have HX := Lib.hid hx
              have ha := List.mem_of_getElem? hx
              obtain ⟨v', b, off, _, htr, rfl, hb, p0, p1, p2, p3⟩ := HT.out.get HR.out hx
              have HC : Hid (∀ w', Keeps w w' [] → Calls Tryz.prog 74 #[.int .i64 kf, .slice VA vn vc, .agg #[.int .i64 v'.k, .int .i64 v'.n, .string v'.s, .slice v'.A v'.len v'.c]] w' (ApDone S w' (tRn (ren kf vars) a))) := fun w' kk => HCall.out a ha v' w' kk (htr.keep kk)
              clear htr hx ha
              have HW : Hid (∀ W', Keeps wr W' (ownL (.slice A2 j c2)) → W'.frozen? ⟨g, 3, none⟩ = false ∧ W'.cell? ⟨g, 3, none⟩ = some (.slice A2 j c2) ∧ W'.cell? ⟨w.heap.size, 3, none⟩ = some (.slice (some ⟨b, off, none⟩) m c) ∧ W'.cell? ⟨b, off + j * 4, none⟩ = some (.int .i64 v'.k) ∧ W'.cell? ⟨b, off + j * 4 + 1, none⟩ = some (.int .i64 v'.n) ∧ W'.cell? ⟨b, off + j * 4 + 2, none⟩ = some (.string v'.s) ∧ W'.cell? ⟨b, off + j * 4 + 3, none⟩ = some (.slice v'.A v'.len v'.c)) := fun W' kk =>
                have kc : ∀ i x, w.cell? ⟨b, i, none⟩ = some x → W'.cell? ⟨b, i, none⟩ = some x := fun i x hx => ((kk.cell (p := ⟨b, i, none⟩) (Nat.lt_of_lt_of_le hb HS.out.keep.size) (own_out HS.out.row hb)).trans (HS.out.keep.cell0 hb)).trans hx
                ⟨(HS.out.out.keep kk HS.out.low.2.1).frozen 3, (HS.out.out.keep kk HS.out.low.2.1).cell 3, ((HS.out.fix _ (List.mem_cons_self ..)).1.keep kk (HS.out.fix _ (List.mem_cons_self ..)).2.1).cell 3, kc _ _ p0, kc _ _ p1, kc _ _ p2, kc _ _ p3⟩
              obtain ⟨q0, q1, q2, q3, q4, q5, q6⟩ := HW.out wr (Keeps.refl _ _)
              clear e1 p0 p1 p2 p3
              have b0 : (0 : Int) ≤ (j : Int) := Int.natCast_nonneg _
              have b1 : (j : Int) < (m : Int) := by omega
              go_wp2_with fail
              have HS1 := HS
              refine wp_region_tx (fun W' => W'.frozen? ⟨g, 3, none⟩ = false ∧ W'.cell? ⟨g, 3, none⟩ = some (.slice A2 j c2) ∧ W'.cell? ⟨w.heap.size, 3, none⟩ = some (.slice (some ⟨b, off, none⟩) m c) ∧ W'.cell? ⟨b, off + j * 4, none⟩ = some (.int .i64 v'.k) ∧ W'.cell? ⟨b, off + j * 4 + 1, none⟩ = some (.int .i64 v'.n) ∧ W'.cell? ⟨b, off + j * 4 + 2, none⟩ = some (.string v'.s) ∧ W'.cell? ⟨b, off + j * 4 + 3, none⟩ = some (.slice v'.A v'.len v'.c)) [(0, true), (1, true), (2, true), (3, true), (4, true), (5, true), (6, true), (7, true), (8, true), (9, false), (10, false), (11, false), (12, true), (13, false)] (by kernel_rfl) (by kernel_rfl) (HW.out _ ((Keeps.refl _ _).drew)) (fun hHeld => ?_)
              (repeat (first | (refine wpTx_take (v := ?_) rfl (by assumption) ?_ (by rfl) ?_; rotate_left; (focus (intro w' hSw; (try dsimp only at hSw); go_simp; (try with_reducible rfl); done)); simp only [Act.put, List.setIfInBounds_toArray, List.set_cons_zero, List.set_cons_succ]) | (refine wpTx_skip rfl (by assumption) (by rfl) ?_; simp only [Act.put, List.setIfInBounds_toArray, List.set_cons_zero, List.set_cons_succ])))
              refine wpTx_go rfl (fun K hK => ?_)
              go_simp
              refine (HC.out _ (HS1.out.keep.drew)).mono ?_
              rintro e w3 ⟨u, rfl, hu, k3⟩
              have HU : Hid (Tr w3 (fun b => S b ∨ wr.heap.size ≤ b) ((tRn (ren kf vars)) a) u) := hu
              unfold tvV
              clear hu
              refine hK.out _ _ ?_ ?_
              · exact HW.out _ (((Keeps.refl _ []).drew.trans k3).to_ _)
              (clear hHeld; intro hHeld; clear hK K; (try simp only [Act.put, List.setIfInBounds_toArray, List.set_cons_zero, List.set_cons_succ]))
              refine wpTx_go rfl (fun K hK => ?_)
              go_simp
              refine hK.out _ _ ?_ ?_
              · exact HW.out _ ((((Keeps.refl _ []).drew.trans k3).alloc _).to_ _)
              (clear hHeld; intro hHeld; clear hK K; (try simp only [Act.put, List.setIfInBounds_toArray, List.set_cons_zero, List.set_cons_succ]))
              refine wpTx_go rfl (fun K hK => ?_)
              refine step_app _ el_rterm (by rfl) _ _ (by rfl) w.heap.size A2 j c2 (us.flatMap tvE) (by rfl) (own_keep0 HS1.out.row (((Keeps.refl _ []).drew.trans k3).alloc _)) (some ⟨w3.heap.size, 0, none⟩) 1 1 (tvE u) (by rfl) (Rd.one w3 _ (tvE u)) rfl (by simp) (by simp [tvE, Value.oneCell']) (by omega) (by simp; have := HS1.out.keep.size; have := k3.size; simp at this; omega) ?_
              intro A' c' w2 hown hgrow hat
              refine hK.out _ _ ?_ ?_
              · exact HW.out _ (((Keeps.refl _ []).drew.trans k3).alloc _ |>.rest (Keeps.ofGrown hgrow))
              (clear hHeld; intro hHeld; clear hK K; (try simp only [Act.put, List.setIfInBounds_toArray, List.set_cons_zero, List.set_cons_succ]))
              (repeat (first | (refine wpTx_take (v := ?_) rfl (by assumption) ?_ (by rfl) ?_; rotate_left; (focus (intro w' hSw; (try dsimp only at hSw); go_simp; (try with_reducible rfl); done)); simp only [Act.put, List.setIfInBounds_toArray, List.set_cons_zero, List.set_cons_succ]) | (refine wpTx_skip rfl (by assumption) (by rfl) ?_; simp only [Act.put, List.setIfInBounds_toArray, List.set_cons_zero, List.set_cons_succ])))
              refine wpTx_last rfl (fun K hK => ?_)
              go_simp
              refine hK.out _ _ (NoPanic.normal ?_); clear hK K; (try simp only [Act.put, List.setIfInBounds_toArray, List.set_cons_zero, List.set_cons_succ])
              go_wp2_with fail
              go_roundw
              case rel =>
                have hs := HS1.out.step (((Keeps.refl _ []).drew.trans k3).alloc _) (HS1.out.part HSl.out (by simp) ((HU.out).keep ((Keeps.refl _ []).alloc _))) hown hgrow hat
                rw [show (l.take j).map (tRn (ren kf vars)) ++ [(tRn (ren kf vars)) a] = (l.take (j + 1)).map (tRn (ren kf vars)) by rw [List.take_add_one, HX.out, List.map_append]; rfl] at hs
                exact ⟨j + 1, by omega, by go_num, A', c', _, hs⟩
              case measure => simp [intOf]; omega
            · obtain rfl : m = j := by omega
              have hd := HS.out.done (by omega)
              rw [show (l.take m).map (tRn (ren kf vars)) = l.map (tRn (ren kf vars)) by rw [← HM.out, List.take_length]] at hd
              have hr := (HS.out.fix (w.heap.size + 1, 24, #[.int .i64 0, .int .i64 0, .string ⟨#[]⟩, .slice none 0 0]) (by simp)).1
              have d0 := HS.out.out.cell 0
              have d1 := HS.out.out.cell 1
              have d2 := HS.out.out.cell 2
              have d3 := HS.out.out.cell 3
              have r0 := hr.cell 0
              have r1 := hr.cell 1
              have r2 := hr.cell 2
              have r3 := hr.cell 3
              have f0 := hr.frozen 0
              have f1 := hr.frozen 1
              have f2 := hr.frozen 2
              have f3 := hr.frozen 3
              have HD := Lib.hid ((hd.mono (S' := fun b => (S b ∨ w.heap.size ≤ b) ∧ b ≠ w.heap.size + 1) fun b hb => ⟨hb.1, hb.2.2 (w.heap.size + 1, 24, #[.int .i64 0, .int .i64 0, .string ⟨#[]⟩, .slice none 0 0]) (by simp)⟩).end4 (.int .i64 k) (.int .i64 n) (.string s) (.slice A2 m c2) HS.out.keep (by omega))
              clear hd hr hlt hj
              go_wp2_with fail
              exact bodyPost_ret (v := .agg #[.int .i64 k, .int .i64 n, .string s, .slice A2 m c2]) (by simp [results, Tryz.results74, go_sem, *]) rfl (by rw [HG.out]; exact HD.out)
        · have i1 : ¬ (0 : Int) < (vn : Int) := by omega
          go_wp2_with fail
          clear e1 e3 i1 hv0
          go_loopw [9] (fun i wr => ∃ j : Nat, j ≤ m ∧ i = .int .i64 j ∧ ∃ A2 c2 us, TSt 24 (fun b => S b ∨ w.heap.size ≤ b) w wr [] [(w.heap.size, 24, #[.int .i64 k, .int .i64 n, .string s, .slice A m c]), (w.heap.size + 1, 24, #[.int .i64 0, .int .i64 0, .string ⟨#[]⟩, .slice none 0 0])] g k n s ((l.take j).map (tRn (ren kf vars))) us A2 j c2) (fun i _ => m - (intOf i).toNat)
          case atStart => exact ⟨0, Nat.zero_le _, rfl, none, 0, [], HST.out⟩
          case round =>
            obtain ⟨j, hj, rfl, A2, c2, us, st⟩ := hrel
            have HS := Lib.hid st
            have e1 := (st.fix _ (List.mem_cons_self ..)).1.cell 3
            clear st HST
            by_cases hlt : j < m
            · obtain ⟨a, hx⟩ := at_of HM.out hlt
              have HX := Lib.hid hx
              have ha := List.mem_of_getElem? hx
              obtain ⟨v', b, off, _, htr, rfl, hb, p0, p1, p2, p3⟩ := HT.out.get HR.out hx
              have HC : Hid (∀ w', Keeps w w' [] → Calls Tryz.prog 74 #[.int .i64 kf, .slice VA vn vc, .agg #[.int .i64 v'.k, .int .i64 v'.n, .string v'.s, .slice v'.A v'.len v'.c]] w' (ApDone S w' (tRn (ren kf vars) a))) := fun w' kk => HCall.out a ha v' w' kk (htr.keep kk)
              clear htr hx ha
              have HW : Hid (∀ W', Keeps wr W' (ownL (.slice A2 j c2)) → W'.frozen? ⟨g, 3, none⟩ = false ∧ W'.cell? ⟨g, 3, none⟩ = some (.slice A2 j c2) ∧ W'.cell? ⟨w.heap.size, 3, none⟩ = some (.slice (some ⟨b, off, none⟩) m c) ∧ W'.cell? ⟨b, off + j * 4, none⟩ = some (.int .i64 v'.k) ∧ W'.cell? ⟨b, off + j * 4 + 1, none⟩ = some (.int .i64 v'.n) ∧ W'.cell? ⟨b, off + j * 4 + 2, none⟩ = some (.string v'.s) ∧ W'.cell? ⟨b, off + j * 4 + 3, none⟩ = some (.slice v'.A v'.len v'.c)) := fun W' kk =>
                have kc : ∀ i x, w.cell? ⟨b, i, none⟩ = some x → W'.cell? ⟨b, i, none⟩ = some x := fun i x hx => ((kk.cell (p := ⟨b, i, none⟩) (Nat.lt_of_lt_of_le hb HS.out.keep.size) (own_out HS.out.row hb)).trans (HS.out.keep.cell0 hb)).trans hx
                ⟨(HS.out.out.keep kk HS.out.low.2.1).frozen 3, (HS.out.out.keep kk HS.out.low.2.1).cell 3, ((HS.out.fix _ (List.mem_cons_self ..)).1.keep kk (HS.out.fix _ (List.mem_cons_self ..)).2.1).cell 3, kc _ _ p0, kc _ _ p1, kc _ _ p2, kc _ _ p3⟩
              obtain ⟨q0, q1, q2, q3, q4, q5, q6⟩ := HW.out wr (Keeps.refl _ _)
              clear e1 p0 p1 p2 p3
              have b0 : (0 : Int) ≤ (j : Int) := Int.natCast_nonneg _
              have b1 : (j : Int) < (m : Int) := by omega
              go_wp2_with fail
              have HS1 := HS
              refine wp_region_tx (fun W' => W'.frozen? ⟨g, 3, none⟩ = false ∧ W'.cell? ⟨g, 3, none⟩ = some (.slice A2 j c2) ∧ W'.cell? ⟨w.heap.size, 3, none⟩ = some (.slice (some ⟨b, off, none⟩) m c) ∧ W'.cell? ⟨b, off + j * 4, none⟩ = some (.int .i64 v'.k) ∧ W'.cell? ⟨b, off + j * 4 + 1, none⟩ = some (.int .i64 v'.n) ∧ W'.cell? ⟨b, off + j * 4 + 2, none⟩ = some (.string v'.s) ∧ W'.cell? ⟨b, off + j * 4 + 3, none⟩ = some (.slice v'.A v'.len v'.c)) [(0, true), (1, true), (2, true), (3, true), (4, true), (5, true), (6, true), (7, true), (8, true), (9, false), (10, false), (11, false), (12, true), (13, false)] (by kernel_rfl) (by kernel_rfl) (HW.out _ ((Keeps.refl _ _).drew)) (fun hHeld => ?_)
              (repeat (first | (refine wpTx_take (v := ?_) rfl (by assumption) ?_ (by rfl) ?_; rotate_left; (focus (intro w' hSw; (try dsimp only at hSw); go_simp; (try with_reducible rfl); done)); simp only [Act.put, List.setIfInBounds_toArray, List.set_cons_zero, List.set_cons_succ]) | (refine wpTx_skip rfl (by assumption) (by rfl) ?_; simp only [Act.put, List.setIfInBounds_toArray, List.set_cons_zero, List.set_cons_succ])))
              refine wpTx_go rfl (fun K hK => ?_)
              go_simp
              refine (HC.out _ (HS1.out.keep.drew)).mono ?_
              rintro e w3 ⟨u, rfl, hu, k3⟩
              have HU : Hid (Tr w3 (fun b => S b ∨ wr.heap.size ≤ b) ((tRn (ren kf vars)) a) u) := hu
              unfold tvV
              clear hu
              refine hK.out _ _ ?_ ?_
              · exact HW.out _ (((Keeps.refl _ []).drew.trans k3).to_ _)
              (clear hHeld; intro hHeld; clear hK K; (try simp only [Act.put, List.setIfInBounds_toArray, List.set_cons_zero, List.set_cons_succ]))
              refine wpTx_go rfl (fun K hK => ?_)
              go_simp
              refine hK.out _ _ ?_ ?_
              · exact HW.out _ ((((Keeps.refl _ []).drew.trans k3).alloc _).to_ _)
              (clear hHeld; intro hHeld; clear hK K; (try simp only [Act.put, List.setIfInBounds_toArray, List.set_cons_zero, List.set_cons_succ]))
              refine wpTx_go rfl (fun K hK => ?_)
              refine step_app _ el_rterm (by rfl) _ _ (by rfl) w.heap.size A2 j c2 (us.flatMap tvE) (by rfl) (own_keep0 HS1.out.row (((Keeps.refl _ []).drew.trans k3).alloc _)) (some ⟨w3.heap.size, 0, none⟩) 1 1 (tvE u) (by rfl) (Rd.one w3 _ (tvE u)) rfl (by simp) (by simp [tvE, Value.oneCell']) (by omega) (by simp; have := HS1.out.keep.size; have := k3.size; simp at this; omega) ?_
              intro A' c' w2 hown hgrow hat
              refine hK.out _ _ ?_ ?_
              · exact HW.out _ (((Keeps.refl _ []).drew.trans k3).alloc _ |>.rest (Keeps.ofGrown hgrow))
              (clear hHeld; intro hHeld; clear hK K; (try simp only [Act.put, List.setIfInBounds_toArray, List.set_cons_zero, List.set_cons_succ]))
              (repeat (first | (refine wpTx_take (v := ?_) rfl (by assumption) ?_ (by rfl) ?_; rotate_left; (focus (intro w' hSw; (try dsimp only at hSw); go_simp; (try with_reducible rfl); done)); simp only [Act.put, List.setIfInBounds_toArray, List.set_cons_zero, List.set_cons_succ]) | (refine wpTx_skip rfl (by assumption) (by rfl) ?_; simp only [Act.put, List.setIfInBounds_toArray, List.set_cons_zero, List.set_cons_succ])))
              refine wpTx_last rfl (fun K hK => ?_)
              go_simp
              refine hK.out _ _ (NoPanic.normal ?_); clear hK K; (try simp only [Act.put, List.setIfInBounds_toArray, List.set_cons_zero, List.set_cons_succ])
              go_wp2_with fail
              go_roundw
              case rel =>
                have hs := HS1.out.step (((Keeps.refl _ []).drew.trans k3).alloc _) (HS1.out.part HSl.out (by simp) ((HU.out).keep ((Keeps.refl _ []).alloc _))) hown hgrow hat
                rw [show (l.take j).map (tRn (ren kf vars)) ++ [(tRn (ren kf vars)) a] = (l.take (j + 1)).map (tRn (ren kf vars)) by rw [List.take_add_one, HX.out, List.map_append]; rfl] at hs
                exact ⟨j + 1, by omega, by go_num, A', c', _, hs⟩
              case measure => simp [intOf]; omega
            · obtain rfl : m = j := by omega
              have hd := HS.out.done (by omega)
              rw [show (l.take m).map (tRn (ren kf vars)) = l.map (tRn (ren kf vars)) by rw [← HM.out, List.take_length]] at hd
              have hr := (HS.out.fix (w.heap.size + 1, 24, #[.int .i64 0, .int .i64 0, .string ⟨#[]⟩, .slice none 0 0]) (by simp)).1
              have d0 := HS.out.out.cell 0
              have d1 := HS.out.out.cell 1
              have d2 := HS.out.out.cell 2
              have d3 := HS.out.out.cell 3
              have r0 := hr.cell 0
              have r1 := hr.cell 1
              have r2 := hr.cell 2
              have r3 := hr.cell 3
              have f0 := hr.frozen 0
              have f1 := hr.frozen 1
              have f2 := hr.frozen 2
              have f3 := hr.frozen 3
              have HD := Lib.hid ((hd.mono (S' := fun b => (S b ∨ w.heap.size ≤ b) ∧ b ≠ w.heap.size + 1) fun b hb => ⟨hb.1, hb.2.2 (w.heap.size + 1, 24, #[.int .i64 0, .int .i64 0, .string ⟨#[]⟩, .slice none 0 0]) (by simp)⟩).end4 (.int .i64 k) (.int .i64 n) (.string s) (.slice A2 m c2) HS.out.keep (by omega))
              clear hd hr hlt hj
              go_wp2_with fail
              exact bodyPost_ret (v := .agg #[.int .i64 k, .int .i64 n, .string s, .slice A2 m c2]) (by simp [results, Tryz.results74, go_sem, *]) rfl (by rw [HG.out]; exact HD.out)

set_option maxRecDepth 100000 in
set_option maxHeartbeats 3200000 in
theorem refRenameL_any (k : Int) (k0 : 0 ≤ k) (k9 : k ≤ 1000000) (l : List Tm) (vs : List TV) (A : Option Addr) (m c : Nat) (w : World) (hT : Trs w (fun _ => True) l vs) (hR : Rd w A (vs.flatMap tvE)) (hm : l.length = m) (hmb : m ≤ 1000000) (hw : ∀ a ∈ l, tRight a = true) (hv : (tVars l).length ≤ 1000000) :
    Calls Tryz.prog 43 #[.int .i64 k, .slice A m c] w (LDone w (rn k l)) := by
  have HVs := Lib.hid (refVarsL_any l vs A m c w hT hR hm (by omega) hv hw)
  have HWd := Lib.hid hw
  have HV := Lib.hid hv
  have HT0 := Lib.hid hT
  have HR0 := Lib.hid hR
  have HM := Lib.hid hm
  have HRn : Hid (rn k l = l.map (tRn (ren k (tVars l)))) := rfl
  rw [HRn.out]
  clear hw hv hT hR hm HRn
  go_enter Tryz.func43, Tryz.ntmps43
  go_wp2_with fail
  refine HVs.out.mono ?_
  rintro e w2 ⟨VA, vc, rfl, hN, k1⟩
  have HNs := Lib.hid hN
  have HKw2 := Lib.hid k1
  have HT := Lib.hid (HT0.out.keep k1 |>.here.mono (S' := fun b => b < w2.heap.size) fun b h => h.2)
  have HR := Lib.hid (HR0.out.keep k1)
  have HK0 : Hid (Keeps w2 w2 []) := Keeps.refl _ _
  have HCa : Hid (∀ a ∈ l, ∀ (v' : TV) W, Keeps w2 W [] → Tr W (fun b => b < w2.heap.size) a v' → Calls Tryz.prog 74 #[.int .i64 k, .slice VA (tVars l).length vc, .agg #[.int .i64 v'.k, .int .i64 v'.n, .string v'.s, .slice v'.A v'.len v'.c]] W (ApDone (fun b => b < w2.heap.size) W (tRn (ren k (tVars l)) a))) := fun a ha v' W kk htr =>
    refRename_any k k0 k9 VA (tVars l).length vc (tVars l) rfl HV.out (walks_nodup [] l List.nodup_nil) a v' W (fun b => b < w2.heap.size) (fun b hb => Nat.lt_of_lt_of_le hb kk.size) htr (HWd.out a ha) (vars_in HWd.out a ha).vs ((HNs.out.keep (w' := W) (fun p hp => kk.cell hp (by simp))).more kk.size)
  clear hN k1 HVs HNs k0 k9
  go_wp2_with fail
  go_loopw [6, 7] (fun x6 x7 wr => ∃ (j : Nat) (A2 : Option Addr) (c2 : Nat) (us : List TV), j ≤ m ∧ x7 = .int .i64 j ∧ x6 = .slice A2 j c2 ∧ LR 24 w2 wr ((l.take j).map (tRn (ren k (tVars l)))) us A2 j c2) (fun _ i _ => m - (intOf i).toNat)
  case atStart => exact ⟨0, none, 0, [], Nat.zero_le _, rfl, rfl, LR.start _ HK0.out⟩
  case round =>
    obtain ⟨j, A2, c2, us, hj, rfl, rfl, st⟩ := hrel
    have HS := Lib.hid st
    clear st
    by_cases hlt : j < m
    · obtain ⟨a, hx⟩ := at_of HM.out hlt
      have HX := Lib.hid hx
      have HMem := Lib.hid (List.mem_of_getElem? hx)
      obtain ⟨v', b, off, _, htr, rfl, hb, p0, p1, p2, p3⟩ := (HT.out.keep HS.out.keep).get (HR.out.keep HS.out.keep) hx
      have HTr := Lib.hid htr
      have b0 : (0 : Int) ≤ (j : Int) := Int.natCast_nonneg _
      have b1 : (j : Int) < (m : Int) := by omega
      clear htr hx
      go_wp2_with fail
      refine (HCa.out a HMem.out v' _ HS.out.keep HTr.out).mono ?_
      rintro e w3 ⟨u, rfl, hu, k3⟩
      have HK3 := Lib.hid k3
      have HU := Lib.hid hu
      unfold tvV
      clear hu k3 p0 p1 p2 p3 hb
      go_wp2_with (at_builtin; have K5 := HK3.out.alloc (.cells #[.int .i64 u.k, .int .i64 u.n, .string u.s, .slice u.A u.len u.c] 24); have hz5 := K5.size; have hz6 := HS.out.keep.size; refine wpList_app _ el_rterm rfl (.tmp 16) (.tmp 24) rfl w2.heap.size A2 j c2 (us.flatMap tvE) rfl (own_keep0 HS.out.own K5) (some ⟨w3.heap.size, 0, none⟩) 1 1 (tvE u) rfl (Rd.one w3 _ (tvE u)) rfl (by simp) (by simp [tvE, Value.oneCell']) (by omega) (by omega) ?_; intro A' c' w2 hown hgrow hat; have HN := Lib.hid (HS.out.push K5 ((HU.out.keep ((Keeps.refl w3 []).alloc _)).mono fun b hb => by omega) hown hgrow hat); clear hown hgrow hat K5 hz5 hz6)
      go_roundw
      case rel =>
        have h1 := HN.out
        rw [show (l.take j).map (tRn (ren k (tVars l))) ++ [(tRn (ren k (tVars l))) a] = (l.take (j + 1)).map (tRn (ren k (tVars l))) by rw [List.take_add_one, HX.out, List.map_append]; rfl] at h1
        exact ⟨j + 1, A', c', _, by omega, by go_num, rfl, h1⟩
      case measure => simp [intOf]; omega
    · obtain rfl : m = j := by omega
      have hd := HS.out.done
      rw [show (l.take m).map (tRn (ren k (tVars l))) = l.map (tRn (ren k (tVars l))) by rw [← HM.out, List.take_length]] at hd
      have HD := Lib.hid hd
      clear hd hlt hj
      go_wp2_with fail
      go_ret
      exact ⟨_, _, _, HD.out.choose_spec.choose_spec.choose_spec.1, HD.out.choose_spec.choose_spec.choose_spec.2.1, HD.out.choose_spec.choose_spec.choose_spec.2.2.1, HKw2.out.trans HD.out.choose_spec.choose_spec.choose_spec.2.2.2⟩

set_option maxRecDepth 100000 in
set_option maxHeartbeats 3200000 in
theorem refAlikeL_any (l l' : List Tm) (vs vs' : List TV) (A A' : Option Addr) (m c m' c' : Nat) (w : World) (hT : Trs w (fun _ => True) l vs) (hR : Rd w A (vs.flatMap tvE)) (hm : l.length = m) (hmb : m ≤ 1000000) (hw : ∀ a ∈ l, tRight a = true) (hv : (tVars l).length ≤ 1000000)
    (hT' : Trs w (fun _ => True) l' vs') (hR' : Rd w A' (vs'.flatMap tvE)) (hm' : l'.length = m') (hmb' : m' ≤ 1000000) (hw' : ∀ a ∈ l', tRight a = true) (hv' : (tVars l').length ≤ 1000000) :
    Calls Tryz.prog 19 #[.slice A m c, .slice A' m' c'] w fun e w' => e = .returned (.bool (tSames (rn 0 l) (rn 0 l'))) ∧ Keeps w w' [] := by
  have HC1 := Lib.hid (refRenameL_any 0 (by omega) (by omega) l vs A m c w hT hR hm hmb hw hv)
  have HC2 : Hid (∀ W, Keeps w W [] → Calls Tryz.prog 43 #[.int .i64 0, .slice A' m' c'] W (LDone W (rn 0 l'))) := fun W k => refRenameL_any 0 (by omega) (by omega) l' vs' A' m' c' W (hT'.keep k) (hR'.keep k) hm' hmb' hw' hv'
  have HL1 : Hid ((rn 0 l).length = m) := by show _ = _; rw [rn_len, hm]
  have HL2 : Hid ((rn 0 l').length = m') := by show _ = _; rw [rn_len, hm']
  have HSm : Hid (∀ (t t' : Tm) (u v : TV) (w : World), Tr w (fun _ => True) t u → Tr w (fun _ => True) t' v → Calls Tryz.prog 44 #[.agg #[.int .i64 u.k, .int .i64 u.n, .string u.s, .slice u.A u.len u.c], .agg #[.int .i64 v.k, .int .i64 v.n, .string v.s, .slice v.A v.len v.c]] w fun e w' => e = .returned (.bool (tSame t t')) ∧ Keeps w w' []) := fun t t' u v w h1 h2 => refSame_any t t' u v w h1 h2
  clear hT hR hm hw hv hT' hR' hm' hw' hv'
  go_enter Tryz.func19, Tryz.ntmps19
  by_cases hmm : m = m'
  case neg =>
    have hne : Hid (tSames (rn 0 l) (rn 0 l') = false) := by
      refine Bool.eq_false_iff.2 fun h => ?_
      have h1 := congrArg List.length ((tSames_iff _ _).1 h)
      rw [HL1.out, HL2.out] at h1
      exact hmm h1
    have e7 : ((m : Int) != (m' : Int)) = true := by simpa using (show ¬ (m : Int) = (m' : Int) by omega)
    have e8 : (m == m') = false := by simpa using hmm
    have e9 : (m != m') = true := by simpa using hmm
    rw [hne.out]
    go_wp2_with fail
    go_ret
    exact ⟨rfl, Keeps.refl _ _⟩
  subst hmm
  go_wp2_with fail
  refine HC1.out.mono ?_
  rintro e w1 ⟨B1, d1, us1, rfl, ht1, hr1, k1⟩
  rw [HL1.out]
  have HT1 := Lib.hid ht1
  have HR1 := Lib.hid hr1
  have HK1 := Lib.hid k1
  clear ht1 hr1 k1 HC1
  go_wp2_with fail
  refine (HC2.out _ HK1.out).mono ?_
  rintro e w2 ⟨B2, d2, us2, rfl, ht2, hr2, k2⟩
  rw [HL2.out]
  have HTa := Lib.hid (HT1.out.keep k2)
  have HRa := Lib.hid (HR1.out.keep k2)
  have HTb := Lib.hid ht2
  have HRb := Lib.hid hr2
  have HK2 := Lib.hid (HK1.out.trans k2)
  obtain ⟨q1, hq1⟩ : ∃ q1, rn 0 l = q1 := ⟨_, rfl⟩
  obtain ⟨q2, hq2⟩ : ∃ q2, rn 0 l' = q2 := ⟨_, rfl⟩
  have HQ1 := Lib.hid hq1
  have HQ2 := Lib.hid hq2
  rw [hq1] at HL1 HTa
  rw [hq2] at HL2 HTb
  clear hq1 hq2
  clear ht2 hr2 k2 HC2 HT1 HR1
  go_wp2_with fail
  go_loopw [7] (fun x7 wr => ∃ j : Nat, j ≤ m ∧ x7 = .int .i64 j ∧ tSames (q1.take j) (q2.take j) = true ∧ Keeps w2 wr []) (fun x7 _ => m - (intOf x7).toNat)
  case atStart => exact ⟨0, Nat.zero_le _, rfl, by simp [tSames], Keeps.refl _ _⟩
  case round =>
    obtain ⟨j, hj, rfl, hpos, hkeep⟩ := hrel
    have HK := Lib.hid hkeep
    have HP := Lib.hid hpos
    clear hpos
    by_cases hlt : j < m
    · obtain ⟨a, hx⟩ := at_of HL1.out hlt
      obtain ⟨a', hy⟩ := at_of HL2.out hlt
      have HN := Lib.hid (tSames_snoc hx hy HP.out)
      have hno := tSames_no hx hy
      obtain ⟨u, b, off, _, htr, rfl, hb, p0, p1, p2, p3⟩ := (HTa.out.keep hkeep).get (HRa.out.keep hkeep) hx
      obtain ⟨v, b', off', _, htr', rfl, hb', q0, q1', q2', q3⟩ := (HTb.out.keep hkeep).get (HRb.out.keep hkeep) hy
      have HW : Hid (∀ W', Keeps wr W' [] → W'.cell? ⟨b, off + j * 4, none⟩ = some (.int .i64 u.k) ∧ W'.cell? ⟨b, off + j * 4 + 1, none⟩ = some (.int .i64 u.n) ∧ W'.cell? ⟨b, off + j * 4 + 2, none⟩ = some (.string u.s) ∧ W'.cell? ⟨b, off + j * 4 + 3, none⟩ = some (.slice u.A u.len u.c) ∧ W'.cell? ⟨b', off' + j * 4, none⟩ = some (.int .i64 v.k) ∧ W'.cell? ⟨b', off' + j * 4 + 1, none⟩ = some (.int .i64 v.n) ∧ W'.cell? ⟨b', off' + j * 4 + 2, none⟩ = some (.string v.s) ∧ W'.cell? ⟨b', off' + j * 4 + 3, none⟩ = some (.slice v.A v.len v.c)) := fun W' kk => ⟨(kk.cell0 hb).trans p0, (kk.cell0 hb).trans p1, (kk.cell0 hb).trans p2, (kk.cell0 hb).trans p3, (kk.cell0 hb').trans q0, (kk.cell0 hb').trans q1', (kk.cell0 hb').trans q2', (kk.cell0 hb').trans q3⟩
      have HCe0 : Hid (∀ W', Keeps wr W' [] → Calls Tryz.prog 44 #[.agg #[.int .i64 u.k, .int .i64 u.n, .string u.s, .slice u.A u.len u.c], .agg #[.int .i64 v.k, .int .i64 v.n, .string v.s, .slice v.A v.len v.c]] W' fun e w' => e = .returned (.bool (tSame a a')) ∧ Keeps W' w' []) := fun W' kk => HSm.out a a' u v W' (htr.keep kk) (htr'.keep kk)
      have b0 : (0 : Int) ≤ (j : Int) := Int.natCast_nonneg _
      have b1 : (j : Int) < (m : Int) := by omega
      clear hx hy htr htr' hb hb' p0 p1 p2 p3 q0 q1' q2' q3 hkeep
      cases hr : tSame a a' with
      | false =>
        have HO : Hid (tSames q1 q2 = false) := hno hr
        have HCe := HCe0
        rw [hr] at HCe
        clear hno hr HCe0
        go_upto_region 7 with fail
        refine wp_region_tx (fun W' => W'.cell? ⟨b, off + j * 4, none⟩ = some (.int .i64 u.k) ∧ W'.cell? ⟨b, off + j * 4 + 1, none⟩ = some (.int .i64 u.n) ∧ W'.cell? ⟨b, off + j * 4 + 2, none⟩ = some (.string u.s) ∧ W'.cell? ⟨b, off + j * 4 + 3, none⟩ = some (.slice u.A u.len u.c) ∧ W'.cell? ⟨b', off' + j * 4, none⟩ = some (.int .i64 v.k) ∧ W'.cell? ⟨b', off' + j * 4 + 1, none⟩ = some (.int .i64 v.n) ∧ W'.cell? ⟨b', off' + j * 4 + 2, none⟩ = some (.string v.s) ∧ W'.cell? ⟨b', off' + j * 4 + 3, none⟩ = some (.slice v.A v.len v.c)) [(0, true), (1, true), (2, true), (3, true), (4, true), (5, true), (6, true), (7, true), (8, false), (9, false)] (by kernel_rfl) (by kernel_rfl) (HW.out _ (Keeps.refl _ []).drew) (fun hHeld => ?_)
        (repeat (first | (refine wpTx_take (v := ?_) rfl (by assumption) ?_ (by rfl) ?_; rotate_left; (focus (intro w' hSw; (try dsimp only at hSw); go_simp; (try with_reducible rfl); done)); simp only [Act.put, List.setIfInBounds_toArray, List.set_cons_zero, List.set_cons_succ]) | (refine wpTx_skip rfl (by assumption) (by rfl) ?_; simp only [Act.put, List.setIfInBounds_toArray, List.set_cons_zero, List.set_cons_succ])))
        refine wpTx_go rfl (fun K hK => ?_)
        go_simp
        refine (HCe.out _ (Keeps.refl _ []).drew).mono ?_
        rintro e w5 ⟨rfl, k5⟩
        refine hK.out _ _ ?_ ?_
        · exact HW.out _ ((Keeps.refl _ []).drew.trans k5)
        (clear hHeld; intro hHeld; clear hK K)
        refine wpTx_last rfl (fun K hK => ?_)
        go_simp
        refine hK.out _ _ (NoPanic.normal ?_); clear hK K; (try simp only [Act.put, List.setIfInBounds_toArray, List.set_cons_zero, List.set_cons_succ])
        go_wp2_with fail
        go_ret
        exact ⟨by rw [HQ1.out, HQ2.out, HO.out]; rfl, HK2.out.trans (HK.out.trans ((Keeps.refl _ []).drew.trans k5))⟩
      | true =>
        have HCe := HCe0
        rw [hr] at HCe
        have HT1 : Hid (tSame a a' = true) := hr
        clear hno hr HCe0
        go_upto_region 7 with fail
        refine wp_region_tx (fun W' => W'.cell? ⟨b, off + j * 4, none⟩ = some (.int .i64 u.k) ∧ W'.cell? ⟨b, off + j * 4 + 1, none⟩ = some (.int .i64 u.n) ∧ W'.cell? ⟨b, off + j * 4 + 2, none⟩ = some (.string u.s) ∧ W'.cell? ⟨b, off + j * 4 + 3, none⟩ = some (.slice u.A u.len u.c) ∧ W'.cell? ⟨b', off' + j * 4, none⟩ = some (.int .i64 v.k) ∧ W'.cell? ⟨b', off' + j * 4 + 1, none⟩ = some (.int .i64 v.n) ∧ W'.cell? ⟨b', off' + j * 4 + 2, none⟩ = some (.string v.s) ∧ W'.cell? ⟨b', off' + j * 4 + 3, none⟩ = some (.slice v.A v.len v.c)) [(0, true), (1, true), (2, true), (3, true), (4, true), (5, true), (6, true), (7, true), (8, false), (9, false)] (by kernel_rfl) (by kernel_rfl) (HW.out _ (Keeps.refl _ []).drew) (fun hHeld => ?_)
        (repeat (first | (refine wpTx_take (v := ?_) rfl (by assumption) ?_ (by rfl) ?_; rotate_left; (focus (intro w' hSw; (try dsimp only at hSw); go_simp; (try with_reducible rfl); done)); simp only [Act.put, List.setIfInBounds_toArray, List.set_cons_zero, List.set_cons_succ]) | (refine wpTx_skip rfl (by assumption) (by rfl) ?_; simp only [Act.put, List.setIfInBounds_toArray, List.set_cons_zero, List.set_cons_succ])))
        refine wpTx_go rfl (fun K hK => ?_)
        go_simp
        refine (HCe.out _ (Keeps.refl _ []).drew).mono ?_
        rintro e w5 ⟨rfl, k5⟩
        refine hK.out _ _ ?_ ?_
        · exact HW.out _ ((Keeps.refl _ []).drew.trans k5)
        (clear hHeld; intro hHeld; clear hK K)
        refine wpTx_last rfl (fun K hK => ?_)
        go_simp
        refine hK.out _ _ (NoPanic.normal ?_); clear hK K; (try simp only [Act.put, List.setIfInBounds_toArray, List.set_cons_zero, List.set_cons_succ])
        go_wp2_with fail
        go_roundw
        case rel => exact ⟨j + 1, by omega, by go_num, by rw [HN.out, HT1.out], HK.out.trans ((Keeps.refl _ []).drew.trans k5)⟩
        case measure => simp [intOf]; omega
    · obtain rfl : m = j := by omega
      have HA : Hid (tSames q1 q2 = true) := by
        show _ = _
        have h1 := HP.out
        rw [List.take_of_length_le (by rw [HL1.out]; omega), List.take_of_length_le (by rw [HL2.out]; omega)] at h1
        exact h1
      have HK9 := Lib.hid (HK2.out.trans HK.out)
      clear hlt hj hkeep
      go_wp2_with fail
      go_ret
      exact ⟨by rw [HQ1.out, HQ2.out, HA.out]; rfl, HK9.out⟩
end Go.Proofs.YtnonfmaehfmigaaGreatDoor

/- Terms: the law's Fix and Ints. -/
namespace Go.Proofs.YtnonfmaehfmigaaGreatDoor
open Go.RowKit

set_option maxHeartbeats 800000 in
theorem lFix_any (t : Tm) (v : TV) (w : World) (ht : Tr w (fun _ => True) t v) : Calls Tryz.prog 4 #[tvV v] w (TDone [] (fun b => w.heap.size ≤ b) w (lFix t)) := by
  have HT := Lib.hid ht
  clear ht
  unfold tvV
  obtain ⟨k, n, s, A, m, c⟩ := v
  go_enter Tryz.func4, Tryz.ntmps4
  go_upto_region 1 with fail
  have hB0 : Blk ((w.alloc (.cells #[.int .i64 k, .int .i64 n, .string s, .slice A m c] 24)).alloc (.cells #[.int .i64 0, .int .i64 0, .string ⟨#[]⟩, .slice none 0 0] 24)) w.heap.size 24 #[.int .i64 k, .int .i64 n, .string s, .slice A m c] := (Blk.new _ _ _).alloc _
  have hBr : Blk ((w.alloc (.cells #[.int .i64 k, .int .i64 n, .string s, .slice A m c] 24)).alloc (.cells #[.int .i64 0, .int .i64 0, .string ⟨#[]⟩, .slice none 0 0] 24)) (w.heap.size + 1) 24 #[.int .i64 0, .int .i64 0, .string ⟨#[]⟩, .slice none 0 0] := Blk.newAt _ _ (by simp)
  have hK0 : Keeps w ((w.alloc (.cells #[.int .i64 k, .int .i64 n, .string s, .slice A m c] 24)).alloc (.cells #[.int .i64 0, .int .i64 0, .string ⟨#[]⟩, .slice none 0 0] 24)) [] := ((Keeps.refl w []).alloc _).alloc _
  generalize (w.alloc (.cells #[.int .i64 k, .int .i64 n, .string s, .slice A m c] 24)).alloc (.cells #[.int .i64 0, .int .i64 0, .string ⟨#[]⟩, .slice none 0 0] 24) = w0 at hB0 hBr hK0 ⊢
  have q0 := hB0.cell 0
  have q1 := hB0.cell 1
  have q2 := hB0.cell 2
  have q3 := hB0.cell 3
  have HC := Lib.hid (fix_any 4 (by omega) t ⟨k, n, s, A, m, c⟩ w0 30 (HT.out.keep hK0) (by decide) (by omega))
  have HBr := Lib.hid hBr
  have HK0 := Lib.hid hK0
  clear hB0 hBr hK0
  unfold tvV at HC
  go_wp2_with fail
  refine HC.out.mono ?_
  rintro e w1 ⟨u, rfl, hu, k1⟩
  have HU : Hid (Tr w1 (fun b => w0.heap.size ≤ b) (lFix t) u) := hu
  have HK1 := Lib.hid k1
  unfold tvV
  clear hu k1 HC
  have hb4 : Blk (w1.alloc (.cells #[.int .i64 u.k, .int .i64 u.n, .string u.s, .slice u.A u.len u.c] 24)) w1.heap.size 24 #[.int .i64 u.k, .int .i64 u.n, .string u.s, .slice u.A u.len u.c] := Blk.new _ _ _
  have hbr := (HBr.out.keep HK1.out (by simp)).alloc (.cells #[.int .i64 u.k, .int .i64 u.n, .string u.s, .slice u.A u.len u.c] 24)
  have HK2 := Lib.hid ((HK0.out.trans HK1.out).alloc (.cells #[.int .i64 u.k, .int .i64 u.n, .string u.s, .slice u.A u.len u.c] 24))
  have HU2 := Lib.hid (HU.out.keep ((Keeps.refl w1 []).alloc (.cells #[.int .i64 u.k, .int .i64 u.n, .string u.s, .slice u.A u.len u.c] 24)))
  go_upto_region 2 with fail
  generalize w1.alloc (.cells #[.int .i64 u.k, .int .i64 u.n, .string u.s, .slice u.A u.len u.c] 24) = w2 at hb4 hbr HK2 HU2 ⊢
  have y0 := hb4.cell 0
  have y1 := hb4.cell 1
  have y2 := hb4.cell 2
  have y3 := hb4.cell 3
  have r0 := hbr.cell 0
  have r1 := hbr.cell 1
  have r2 := hbr.cell 2
  have r3 := hbr.cell 3
  have f0 := hbr.frozen 0
  have f1 := hbr.frozen 1
  have f2 := hbr.frozen 2
  have f3 := hbr.frozen 3
  have hlt := HBr.out.lt
  have HD := Lib.hid ((HU2.out.mono (S' := fun b => w.heap.size ≤ b ∧ b ≠ w.heap.size + 1) fun b hb => ⟨by omega, by omega⟩).end4 (.int .i64 u.k) (.int .i64 u.n) (.string u.s) (.slice u.A u.len u.c) HK2.out (by omega))
  clear hb4 hbr hlt q0 q1 q2 q3
  go_wp2_with fail
  exact bodyPost_ret (v := .agg #[.int .i64 u.k, .int .i64 u.n, .string u.s, .slice u.A u.len u.c]) (by simp [results, Tryz.results4, go_sem, *]) rfl HD.out

end Go.Proofs.YtnonfmaehfmigaaGreatDoor

/- Layer 5's pair; HeapReads: the walk. Printed by gen_hpreads.py. -/
namespace Go.Proofs.YtnonfmaehfmigaaGreatDoor
open Go.RowKit Go.Maps
theorem Rd.twoH {w : World} {b : Nat} {t : TypeId} {u v : TV} (h : Blk w b t ((tvE u ++ tvE v).toArray)) : Rd w (some ⟨b, 0, none⟩) ([u, v].flatMap tvE) := by
  intro i hi
  have hi' : i < 8 := by simpa [tvE] using hi
  refine ⟨b, 0, ([u, v].flatMap tvE)[i], rfl, h.lt, ?_, List.getElem?_eq_getElem hi⟩
  rw [h.cell (0 + i)]
  simp [List.flatMap_cons]
theorem Nums.at0 {K : IntKind} {w w' : World} {A : Option Addr} {l : List Int} (h : Nums K w w.heap.size A l) (k : Keeps w w' []) : Nums K w' w'.heap.size A l := (h.below k.toBelow).more k.size
theorem Trs.twoH {w : World} {S : Nat → Prop} {a b : Tm} {u v : TV} (h1 : Tr w S a u) (h2 : Tr w S b v) : Trs w S [a, b] [u, v] := (Trs.nil.snoc h1).snoc h2
def PairD (w : World) (a b : Tm) (e : Ending) (w' : World) : Prop :=
  ∃ base hb L, e = .returned (.tuple #[.pointer (some ⟨hb, 0, none⟩), .int .u64 (lay PH0 a).2, .int .u64 (lay (lay PH0 a).1 b).2, .bool true]) ∧ Hp w' base hb L (lay (lay PH0 a).1 b).1 [] [] 900 ∧ (∀ b ∈ L, w.heap.size ≤ b) ∧ Keeps w w' []
set_option maxRecDepth 100000 in
set_option maxHeartbeats 3200000 in
theorem pair_any (a b : Tm) (x0 x1 : TV) (w : World) (h0 : Tr w (fun _ => True) a x0) (h1 : Tr w (fun _ => True) b x1) (ha : tRight a = true) (hb : tRight b = true) (hT : HpTwo a b 900) :
    Calls Tryz.prog 5 #[.agg #[.int .i64 x0.k, .int .i64 x0.n, .string x0.s, .slice x0.A x0.len x0.c], .agg #[.int .i64 x1.k, .int .i64 x1.n, .string x1.s, .slice x1.A x1.len x1.c]] w (PairD w a b) := by
  have HTo : Hid (∀ (t : Tm) (v : TV) (w : World), tRight t = true → Tr w (fun _ => True) t v → Calls Tryz.prog 11 #[.agg #[.int .i64 v.k, .int .i64 v.n, .string v.s, .slice v.A v.len v.c]] w (TDone [] (fun b => w.heap.size ≤ b) w t)) := fun t v w h1 h2 => tmToW_any t v w h2 (tWid_of_right h1)
  have RA := Lib.hid ha
  have RB := Lib.hid hb
  have HTT := Lib.hid hT
  have hB0 : Blk ((w.alloc (.cells #[.int .i64 x0.k, .int .i64 x0.n, .string x0.s, .slice x0.A x0.len x0.c] 24)).alloc (.cells #[.int .i64 x1.k, .int .i64 x1.n, .string x1.s, .slice x1.A x1.len x1.c] 24)) w.heap.size 24 #[.int .i64 x0.k, .int .i64 x0.n, .string x0.s, .slice x0.A x0.len x0.c] := (Blk.new _ _ _).alloc _
  have hB1 : Blk ((w.alloc (.cells #[.int .i64 x0.k, .int .i64 x0.n, .string x0.s, .slice x0.A x0.len x0.c] 24)).alloc (.cells #[.int .i64 x1.k, .int .i64 x1.n, .string x1.s, .slice x1.A x1.len x1.c] 24)) (w.heap.size + 1) 24 #[.int .i64 x1.k, .int .i64 x1.n, .string x1.s, .slice x1.A x1.len x1.c] := Blk.newAt _ _ (by simp)
  have hK0 : Keeps w ((w.alloc (.cells #[.int .i64 x0.k, .int .i64 x0.n, .string x0.s, .slice x0.A x0.len x0.c] 24)).alloc (.cells #[.int .i64 x1.k, .int .i64 x1.n, .string x1.s, .slice x1.A x1.len x1.c] 24)) [] := ((Keeps.refl w []).alloc _).alloc _
  have HQ0 := Lib.hid hB0
  have HQ1 := Lib.hid hB1
  have HK0 := Lib.hid hK0
  have HA0 := Lib.hid (h0.keep hK0)
  have HB0 := Lib.hid (h1.keep hK0)
  clear hB0 hB1 hK0 h0 h1 ha hb hT
  go_enter Tryz.func5, Tryz.ntmps5
  go_upto_region 1 with fail
  generalize ((w.alloc (.cells #[.int .i64 x0.k, .int .i64 x0.n, .string x0.s, .slice x0.A x0.len x0.c] 24)).alloc (.cells #[.int .i64 x1.k, .int .i64 x1.n, .string x1.s, .slice x1.A x1.len x1.c] 24)) = w0 at HQ0 HQ1 HK0 HA0 HB0 ⊢
  go_wp2_with fail
  refine (hnew_yes 900 _ (by omega)).mono ?_
  rintro e w1 ⟨hb, L, rfl, hp, hL, k1⟩
  have HP1 := Lib.hid hp
  have HL := Lib.hid hL
  have HK1 := Lib.hid k1
  have HZ0 := Lib.hid HQ1.out.lt
  have q := HQ0.out.keep k1 (by simp)
  have q0 := q.cell 0
  have q1 := q.cell 1
  have q2 := q.cell 2
  have q3 := q.cell 3
  clear hp hL k1 q
  go_wp2_with fail
  refine (HTo.out a x0 _ RA.out (HA0.out.keep HK1.out)).mono ?_
  rintro e w2 ⟨u, rfl, hu, k2⟩
  have hp2 := HP1.out.keep k2 (by simp)
  have hlt := HP1.out.lt
  have HBd := Lib.hid (build_any _ hb [] [] 900 a u w2 L PH0 hp2 PH0.vi.vb (hu.mono (fun b hb' hm => by have := hlt b hm; omega)) RA.out HTT.out.fit1)
  have HK2 := Lib.hid (HK1.out.trans k2)
  unfold tvV at HBd ⊢
  clear hu k2 hp2 hlt q0 q1 q2 q3
  go_wp2_with fail
  refine HBd.out.mono ?_
  rintro e w3 ⟨rfl, L3, hp3, st3⟩
  have HP3 := Lib.hid hp3
  have hz0 := HZ0.out
  have hk23 := HK2.out.size
  have HK3 : Hid (Keeps w0 w3 []) := by
    have h := (HK2.out.to_ L).trans st3.keep
    exact Lib.hid (h.more fun b hb' hm => absurd (HL.out b hm) (by omega))
  have HL3 : Hid (∀ b ∈ L3, w0.heap.size ≤ b) := fun b hm => (st3.own b hm).elim (HL.out b) (fun h => by omega)
  have p := HQ1.out.keep HK3.out (by simp)
  have q0 := p.cell 0
  have q1 := p.cell 1
  have q2 := p.cell 2
  have q3 := p.cell 3
  clear hp3 st3 p hz0 hk23 HBd HP1 HL
  go_wp2_with fail
  refine (HTo.out b x1 _ RB.out (HB0.out.keep HK3.out)).mono ?_
  rintro e w4 ⟨u4, rfl, hu4, k4⟩
  have hp4 := HP3.out.keep k4 (by simp)
  have hlt := HP3.out.lt
  have HBd := Lib.hid (build_any _ hb [] [] 900 b u4 w4 L3 _ hp4 HTT.out.vi1.vb (hu4.mono (fun b hb' hm => by have := hlt b hm; omega)) RB.out HTT.out.fit2)
  have HK4 := Lib.hid (HK3.out.trans k4)
  unfold tvV at HBd ⊢
  clear hu4 k4 hp4 hlt q0 q1 q2 q3
  go_wp2_with fail
  refine HBd.out.mono ?_
  rintro e w5 ⟨rfl, L5, hp5, st5⟩
  have HP5 := Lib.hid hp5
  have hk23 := HK4.out.size
  have HK5 : Hid (Keeps w w5 []) := by
    have h := (HK4.out.to_ L3).trans st5.keep
    exact Lib.hid (HK0.out.trans (h.more fun b hb' hm => absurd (HL3.out b hm) (by omega)))
  have hk0 := HK0.out.size
  have HL5 : Hid (∀ b ∈ L5, w.heap.size ≤ b) := fun b hm => (st5.own b hm).elim (fun h => by have := HL3.out b h; omega) (fun h => by omega)
  clear hp5 st5 hk23 hk0 HBd
  go_wp2_with fail
  exact bodyPost_ret (v := .tuple #[.pointer (some ⟨hb, 0, none⟩), .int .u64 (lay PH0 a).2, .int .u64 (lay (lay PH0 a).1 b).2, .bool true]) (by simp [results, Tryz.results5, go_sem, *]) rfl ⟨_, hb, L5, rfl, HP5.out, HL5.out, HK5.out⟩
end Go.Proofs.YtnonfmaehfmigaaGreatDoor

/- HeapUndoes: the plain law. What stands behind a mark, whatever is built and made one; what it is behind Undo. No program in sight. -/
namespace Go.Proofs.YtnonfmaehfmigaaGreatDoor
/-! ### Fix makes few parts -/
theorem fixes_even {f : Tm → Int → Tm × Int} (hf : ∀ a n, (tSize (f a n).1 : Int) = n - (f a n).2) (l : List Tm) (left : Int) : ∀ i : Nat, (tSizes (fixes f l left i).1 : Int) = left - (fixes f l left i).2
  | 0 => by simp [fixes, tSizes]
  | i + 1 => by
    have h1 := fixes_even hf l left i
    have h2 := hf (l.getD i tz) (fixes f l left i).2
    rw [fixes]
    simp only [tSizes_snoc]
    omega
theorem tFix_even : ∀ (d : Nat) (t : Tm) (left : Int), (tSize (tFix d t left).1 : Int) = left - (tFix d t left).2
  | 0, .mk k n s l, left => by
    have h : fixW (fixK 0 left k) n = 0 := (fixW_le _ n).2 ((fixK_range 0 left k).2.2 rfl)
    rw [tFix, fixT, h]
    simp [fixes, tSize, tSizes]
    omega
  | d + 1, .mk k n s l, left => by
    rw [tFix, fixT]
    have := fixes_even (tFix_even d) l (left - 1) (fixW (fixK (d + 1) left k) n)
    simp only [tSize]
    omega
theorem fixes_low {f : Tm → Int → Tm × Int} {D : Int} (hf : ∀ a n, n - 1 ≤ (f a n).2 ∨ D ≤ (f a n).2) (l : List Tm) (left : Int) : ∀ i : Nat, left ≤ (fixes f l left i).2 + i ∨ D + 1 ≤ (fixes f l left i).2 + i
  | 0 => by simp [fixes]
  | i + 1 => by
    have h1 := fixes_low hf l left i
    have h2 := hf (l.getD i tz) (fixes f l left i).2
    rw [fixes]
    simp only
    omega
theorem fixK_few (d : Nat) (left k : Int) (h : left < 4) : fixK d left k ≤ 1 := by
  have := u64_nonneg k
  unfold fixK
  split <;> omega
theorem tFix_low : ∀ (d : Nat) (t : Tm) (left : Int), left - 1 ≤ (tFix d t left).2 ∨ -2 * (d : Int) ≤ (tFix d t left).2
  | 0, .mk k n s l, left => by
    have h : fixW (fixK 0 left k) n = 0 := (fixW_le _ n).2 ((fixK_range 0 left k).2.2 rfl)
    rw [tFix, fixT, h]
    simp [fixes]
  | d + 1, .mk k n s l, left => by
    rw [tFix, fixT]
    by_cases hw : fixW (fixK (d + 1) left k) n = 0
    · rw [hw]
      simp [fixes]
    · have h4 : ¬ left < 4 := fun h => hw ((fixW_le _ n).2 (fixK_few _ _ _ h))
      have h1 := fixes_low (tFix_low d) l (left - 1) (fixW (fixK (d + 1) left k) n)
      have h2 := (fixW_le (fixK (d + 1) left k) n).1
      simp only
      omega
theorem lFix_size2 (t : Tm) : tSize (lFix t) ≤ 38 := by
  have h1 := tFix_even 4 t 30
  have h2 := tFix_low 4 t 30
  unfold lFix
  omega
/-! ### Variables' places stay apart -/
def VInj (H : PH) : Prop := ∀ n m p, H.vars n = some p → H.vars m = some p → n = m
theorem layV_inj {H : PH} (v : VB H) (h : VInj H) (n : Int) : VInj (layV H n).1 := by
  unfold layV
  cases hv : H.vars n with
  | some p => exact h
  | none =>
    intro x y p hx hy
    replace hx : putV H.vars n _ x = some p := hx
    replace hy : putV H.vars n _ y = some p := hy
    unfold putV at hx hy
    split at hx
    · split at hy
      · omega
      · obtain ⟨q, e, hq⟩ := v.at_ y p hy
        have := Option.some.inj hx
        omega
    · split at hy
      · obtain ⟨q, e, hq⟩ := v.at_ x p hx
        have := Option.some.inj hy
        omega
      · exact h x y p hx hy
theorem lays_inj : ∀ (l : List Tm), (∀ a ∈ l, ∀ H, VB H → VInj H → VInj (lay H a).1) → ∀ H, VB H → VInj H → VInj (lays H l).1
  | [], _, H, _, h => by rw [lays]; exact h
  | a :: l, ih, H, v, h => by
    rw [lays]
    exact lays_inj l (fun b hb => ih b (by simp [hb])) _ (layB_ok a H v).2 (ih a (by simp) H v h)
theorem lay_inj (t : Tm) : ∀ H, VB H → VInj H → VInj (lay H t).1 := by
  induction t using Tm.ind_ with
  | h k n s l ih =>
    intro H v h
    rw [lay]
    split
    · exact layV_inj v h n
    · split
      · exact h
      · have g := lays_inj l ih H v h
        simp only
        split
        · exact g
        · exact g
/-! ### Behind a mark -/
structure Und (H2 : PH) (i j : Nat) (H : PH) (tr : List Int) : Prop where
  ok : HOk H
  inv : UInv H2.cells H tr
  atoms : H2.atoms <+: H.atoms
  funs : H2.funs <+: H.funs
  inj : VInj H
  cells : H.cells.length ≤ 76 * (2 + i)
  atl : H.atoms.length ≤ 38 * (2 + i)
  ful : H.funs.length ≤ 38 * (2 + i)
  few : tr.length ≤ 4096 * j
theorem Und.more {H2 H : PH} {i j j' : Nat} {tr : List Int} (u : Und H2 i j H tr) (h : j ≤ j') : Und H2 i j' H tr := ⟨u.ok, u.inv, u.atoms, u.funs, u.inj, u.cells, u.atl, u.ful, by have := u.few; omega⟩
theorem UInv.app {C0 : List Int} {H H' : PH} {tr : List Int} (h : UInv C0 H tr) (k : H.cells <+: H'.cells) : UInv C0 H' tr :=
  ⟨Nat.le_trans h.len k.length_le, h.trs, fun q hq hn => by
    rw [← h.same q hq hn]
    have hl := h.len
    obtain ⟨x, hx⟩ : ∃ x, H.cells[q]? = some x := ⟨H.cells[q]'(by omega), List.getElem?_eq_getElem (by omega)⟩
    rw [hx, pre_at k hx]⟩
theorem Und.build {H2 H : PH} {i j : Nat} {tr : List Int} (u : Und H2 i j H tr) (hi : i ≤ 4) {t : Tm} (ht : tRight t = true) (hs : tSize t ≤ 38) :
    FitR 900 (lay H t).1 ∧ Und H2 (i + 1) j (lay H t).1 tr ∧ 0 ≤ (lay H t).2 ∧ (lay H t).2 < 18446744073709551616 ∧ right (lay H t).2 = true := by
  have g := (lay_grow t H).1
  have g1 := g.cells
  have g2 := g.atoms
  have g3 := g.funs
  have u1 := u.cells
  have u2 := u.atl
  have u3 := u.ful
  have hf : FitR 900 (lay H t).1 := ⟨by omega, by omega, by omega⟩
  have hb := (layB_ok t H u.ok.vb).1
  exact ⟨hf, ⟨(lay_hok (by omega : 900 ≤ 65536) t ht H u.ok hf).1, u.inv.app hb.cells, u.atoms.trans hb.atoms, u.funs.trans hb.funs, lay_inj t H u.ok.vb u.inj, by omega, by omega, by omega, u.few⟩, lay_cell (by omega : 900 ≤ 65536) H u.ok.vb t hf⟩
theorem Und.unify {H2 H : PH} {i j : Nat} {tr : List Int} (u : Und H2 i j H tr) {t0 : Int} (hb : ∀ x ∈ H.cells, 0 ≤ x ∧ x < 18446744073709551616) {a b : Int} (hab : CellsOk [(a, b)]) :
    Und H2 i (j + 1) (unifyP [((H2.cells.length : Int), t0)] 4096 (H, tr) [(a, b)]).1.1 (unifyP [((H2.cells.length : Int), t0)] 4096 (H, tr) [(a, b)]).1.2 := by
  have h := unify_okP (mk := [((H2.cells.length : Int), t0)]) 4096 (H, tr) [(a, b)] u.ok hb hab
  generalize (unifyP [((H2.cells.length : Int), t0)] 4096 (H, tr) [(a, b)]).1 = S at h
  have k1 := h.kept.atoms
  have k2 := h.kept.funs
  have k3 := h.kept.vars
  have k4 := h.kept.len
  have k5 := h.few
  simp only at k1 k2 k3 k4 k5
  have u0 := u.few
  have u1 := u.cells
  exact ⟨h.ok, h.inv H2.cells rfl u.inv, by rw [k1]; exact u.atoms, by rw [k2]; exact u.funs, by unfold VInj; rw [k3]; exact u.inj, by omega, by rw [k1]; exact u.atl, by rw [k2]; exact u.ful, by omega⟩
/-! ### Behind Undo -/
def undP (H2 H : PH) : PH := ⟨H2.cells, H.atoms, H.funs, keepV H.vars H2.cells.length⟩
theorem Und.back {H2 H : PH} {i j : Nat} {tr : List Int} (u : Und H2 i j H tr) : (⟨(backL (tr.drop 0) H.cells).take H2.cells.length, H.atoms, H.funs, keepV H.vars H2.cells.length⟩ : PH) = undP H2 H := by
  unfold undP
  rw [List.drop_zero, u.inv.back]
theorem Und.hok {H2 H : PH} {i j : Nat} {tr : List Int} (u : Und H2 i j H tr) (h2 : HOk H2) : HOk (undP H2 H) :=
  ⟨h2.right, h2.refs, fun n p hp => by
    obtain ⟨h3, h4⟩ := keepV_some hp
    obtain ⟨q, e, _⟩ := u.ok.vars n p h3
    exact ⟨q, e, by show q < H2.cells.length; omega⟩, u.ok.funs, u.ok.sizes⟩
theorem Rp.vars {H : PH} {V : Int → Option Int} {c : Int} {t : Tm} (h : Rp H c t) : Rp { H with vars := V } c t := by
  induction h with
  | var p h => exact .var p h
  | con i s h => exact .con i s h
  | lis p l cs hl hcs ha h ih => exact .lis p l cs hl hcs ha ih
  | str p i s l cs hl hf hi hcs ha h ih => exact .str p i s l cs hl hf hi hcs ha ih
theorem Und.rg {H2 H : PH} {i j : Nat} {tr : List Int} (u : Und H2 i j H tr) (hi : i ≤ 5) {c : Int} {t : Tm} (h : Rp H2 c t) : Rg (undP H2 H) c t := by
  have h1 : Rp (⟨H2.cells, H.atoms, H.funs, H2.vars⟩ : PH) c t := Rp.mono (H := H2) (H' := ⟨H2.cells, H.atoms, H.funs, H2.vars⟩) ⟨List.prefix_refl _, u.atoms, u.funs, fun _ _ h => h⟩ h
  have h2 : Rp (undP H2 H) c t := h1.vars (V := keepV H.vars H2.cells.length)
  have u1 := u.cells
  have u2 := u.atl
  have u3 := u.ful
  have u4 := u.inv.len
  exact h2.rg (room := 900) (by omega) ⟨by show H2.cells.length ≤ 900; omega, by show H.atoms.length ≤ _; omega, by show H.funs.length ≤ _; omega⟩
theorem Und.places {H2 H : PH} {i j : Nat} {tr : List Int} (u : Und H2 i j H tr) : ∀ p ∈ tr.drop 0, ∃ q : Nat, p = q ∧ q < H.cells.length := fun p hp => by
  obtain ⟨q, e, hq⟩ := u.inv.trs p (by simpa using hp)
  have h1 := (List.getElem?_eq_some_iff.1 hq).1
  have h2 := u.inv.len
  exact ⟨q, e, by omega⟩
/-- What two terms come to, in a fresh heap, and how their cells are read. -/
theorem two_rp {a b : Tm} (ha : tRight a = true) (hb : tRight b = true) {room : Nat} (hr : room ≤ 1000) (hs : 2 * (tSize a + tSize b) ≤ room) : ∃ f : Int → Int, Rp (lay (lay PH0 a).1 b).1 (lay PH0 a).2 (tRn f a) ∧ Rp (lay (lay PH0 a).1 b).1 (lay (lay PH0 a).1 b).2 (tRn f b) ∧ (∀ n, n ∈ tV a ∨ n ∈ tV b → 0 ≤ f n ∧ f n ≤ 999) ∧ Inj f (tVars [a, b]) := by
  have f2 := (two_of ha hb hr hs).fit2
  obtain ⟨l1, v1, d1, r1⟩ := lay_ok a ha PH0 PH0.vi
  obtain ⟨l2, v2, d2, r2⟩ := lay_ok b hb _ v1
  have r1' := r1.mono l2
  rw [tRn_congr a (g := plc (lay (lay PH0 a).1 b).1) ha (fun n hn => (plc_mono l2 (d1 n hn)).symm)] at r1'
  have hd : ∀ n, n ∈ tV a ∨ n ∈ tV b → (lay (lay PH0 a).1 b).1.vars n ≠ none := fun n hn => hn.elim (fun h => vars_mono l2 (d1 n h)) (d2 n)
  refine ⟨_, r1', r2, fun n hn => ?_, fun n hn m hm he => ?_⟩
  · obtain ⟨q, h1, _, h3⟩ := plc_at v2 (hd n hn)
    rw [h1]
    have := f2.1
    omega
  · have hin : ∀ n ∈ tVars [a, b], n ∈ tV a ∨ n ∈ tV b := fun n hn => by
      rcases (walks_mem (fun x hx => by simp at hx; rcases hx with rfl | rfl <;> assumption) [] n).1 hn with h | h
      · cases h
      · simpa [tVL] using h
    obtain ⟨q, h1, h2, _⟩ := plc_at v2 (hd n (hin n hn))
    obtain ⟨q', h1', h2', _⟩ := plc_at v2 (hd m (hin m hm))
    rw [h1, h1'] at he
    have : q = q' := by omega
    subst this
    exact v2.inj n m _ h2 h2'
theorem Und.start {a b : Tm} (ha : tRight a = true) (hb : tRight b = true) (sa : tSize a ≤ 38) (sb : tSize b ≤ 38) : Und (lay (lay PH0 a).1 b).1 0 0 (lay (lay PH0 a).1 b).1 [] := by
  have h := two_of ha hb (room := 900) (by omega) (by omega)
  have g1 := (lay_grow a PH0).1
  have g2 := (lay_grow b (lay PH0 a).1).1
  have e1 : PH0.cells.length = 0 := rfl
  have e2 : PH0.atoms.length = 0 := rfl
  have e3 : PH0.funs.length = 0 := rfl
  have a1 := g1.cells
  have a2 := g1.atoms
  have a3 := g1.funs
  have b1 := g2.cells
  have b2 := g2.atoms
  have b3 := g2.funs
  exact ⟨h.ok2, UInv.start _, List.prefix_refl _, List.prefix_refl _, h.vi2.inj, by omega, by omega, by omega, by simp⟩
end Go.Proofs.YtnonfmaehfmigaaGreatDoor

/- The document's Same of two rows of the same numbers; the law's own Cells: as in XAreaS, which can't be imported beside XApp. -/
namespace Go.Proofs.YtnonfmaehfmigaaGreatDoor
open Go.RowKit
theorem info_u64h : (Tryz.prog.info? 27).map (fun i => (i.zero, i.size, i.bytes)) = some (some (.int .u64 0), 1, 8) := by kernel_rfl
/-! ### Same, of two rows of the same numbers -/
set_option maxHeartbeats 1600000 in
theorem same_eq (A B : Option Addr) (n c d : Nat) (l : List Int) (b1 b2 : Nat) (w : World) (hl : l.length = n) (hn : n ≤ 65536) (hA : Nums .u64 w b1 A l) (hB : Nums .u64 w b2 B l) :
    Calls Tryz.prog 17 #[.slice A n c, .slice B n d] w fun e w' => e = .returned (.bool true) ∧ ∃ k, w' = w.drewN k := by
  have HL := Lib.hid hl
  have HA := Lib.hid hA
  have HB := Lib.hid hB
  clear hl hA hB
  go_enter Tryz.func17, Tryz.ntmps17
  go_wp2_with fail
  go_loopw [5] (fun i wr => ∃ k : Nat, k ≤ n ∧ i = .int .i64 k ∧ ∃ q, wr = w.drewN q) (fun i _ => n - (intOf i).toNat)
  case atStart => exact ⟨0, Nat.zero_le _, rfl, 0, rfl⟩
  case round =>
    obtain ⟨k, hk, rfl, q, rfl⟩ := hrel
    by_cases hlt : k < n
    · obtain ⟨ba, oa, x, rfl, _, ca, hx⟩ := HA.out k (by rw [HL.out]; exact hlt)
      obtain ⟨bb, ob, y, rfl, _, cb, hy⟩ := HB.out k (by rw [HL.out]; exact hlt)
      rw [hx] at hy
      obtain rfl : x = y := by injection hy
      have b1 : (0 : Int) ≤ k := by omega
      have b2 : (k : Int) < n := by omega
      clear hx hy
      go_wp2_with fail
      go_quiet (fail)
      go_wp2_with fail
      go_roundw
      case rel => exact ⟨k + 1, by omega, by go_num, _, rfl⟩
      case measure => simp [intOf]; omega
    · obtain rfl : k = n := by omega
      go_wp2_with fail
      go_ret
      exact ⟨rfl, _, rfl⟩

/-! ### The law's Cells -/
set_option maxHeartbeats 1600000 in
theorem lawCells_any (A : Option Addr) (n c : Nat) (l : List Int) (b1 : Nat) (w : World) (hl : l.length = n) (hn : n ≤ 65536) (hA : Nums .u64 w b1 A l) (hb : b1 ≤ w.heap.size) :
    Calls Tryz.prog 7 #[.slice A n c] w (Copied w 27 l) := by
  obtain ⟨i0, hi, hz0, hz1, hz2⟩ := info_parts info_u64h
  have HL := Lib.hid hl
  have HA := Lib.hid (hA.more hb)
  clear hl hA
  go_enter Tryz.func7, Tryz.ntmps7
  go_wp2_with fail
  go_loopw [3, 4] (fun a i wr => ∃ k : Nat, k ≤ n ∧ i = .int .i64 k ∧ ∃ A' c', a = .slice A' k c' ∧ wr.ownsRow w.heap.size 27 1 (.slice A' k c') k ((l.take k).map (Value.int .u64)) ∧ Below w.heap.size w wr) (fun _ i _ => n - (intOf i).toNat)
  case atStart => exact ⟨0, Nat.zero_le _, rfl, none, 0, rfl, World.ownsRow_nil _ _ _ _, Below.refl _ _⟩
  case round =>
    obtain ⟨k, hk, rfl, A', c', rfl, hown, hbel⟩ := hrel
    by_cases hlt : k < n
    · obtain ⟨ba, oa, x, rfl, hba, ca, hx⟩ := HA.out k (by rw [HL.out]; exact hlt)
      have ca2 : wr.cell? ⟨ba, oa + k, none⟩ = some (.int .u64 x) := (hbel.cell (p := ⟨ba, oa + k, none⟩) hba).trans ca
      have HF := Lib.hid (getElem?_snoc_take hx)
      have HO := Lib.hid hown
      have HBel := Lib.hid hbel
      have hsz := hbel.size
      clear hx hown ca hbel
      go_wp2_with (at_builtin; refine wpList_append_row _ rfl (.tmp 11) (.tmp 16) _ rfl w.heap.size 27 i0 _ 1 8 Tryz.underlying32 hi hz0 hz1 hz2 rfl (by omega) A' k c' ((l.take k).map (Value.int .u64)) rfl (HO.out.alloc _) (wr.heap.size + 1) (some ⟨wr.heap.size, 0, none⟩) 1 1 [.int .u64 x] rfl (Nums.lit (K := .u64) wr 27 (0, 0) [x] rfl).toRow rfl (fun hh => by cases hh) (by intro u hu; simp at hu; subst hu; rfl) (by simp only [maxLen]; omega) (by omega) (by simp; omega) ?_; intro A2 k2 w1 hown2 hgrow2 hat2; have hb2 := (HBel.out.alloc hsz _).grown hgrow2 (by simp; omega) (fun q hq => (HO.out.lt q hq).1); clear hgrow2 hat2)
      go_roundw
      case rel =>
        refine ⟨k + 1, by omega, by go_num, A2, k2, rfl, ?_, hb2⟩
        rw [HF.out, List.map_append]
        exact hown2
      case measure => simp [intOf]; omega
    · obtain rfl : k = n := by omega
      have HO := Lib.hid hown
      clear hown
      go_wp2_with fail
      go_ret
      refine ⟨A', c', by rw [HL.out]; rfl, ?_, hbel⟩
      have := HO.out
      rw [List.take_of_length_le (by rw [HL.out]; exact Nat.le_refl _)] at this
      rw [HL.out]
      exact this
end Go.Proofs.YtnonfmaehfmigaaGreatDoor

/- HeapUndoes: what the heap's methods do behind the mark, packed. -/
namespace Go.Proofs.YtnonfmaehfmigaaGreatDoor
open Go.RowKit Go.Maps
/-- A cell that may be handed in. -/
def COk (c : Int) : Prop := 0 ≤ c ∧ c < 18446744073709551616 ∧ right c = true
theorem COk.two {a b : Int} (h : COk a) (k : COk b) : CellsOk [(a, b)] := fun q hq => by
  obtain rfl := List.mem_singleton.1 hq
  exact ⟨h, k⟩
theorem nums_own {K : IntKind} {w : World} {base : Nat} {e : TypeId} {n c : Nat} {A : Option Addr} {l : List Int} (h : w.ownsRow base e 1 (.slice A n c) n (l.map (Value.int K))) : Nums K w w.heap.size A l := by
  obtain ⟨A', c', he, _, h⟩ := Nums.of_own h
  cases he
  exact h
section
variable {w0 : World} {base hb : Nat} {L : List Nat} {H2 : PH}
/-- Behind the mark. -/
def HuW (w0 : World) (base hb : Nat) (L : List Nat) (H2 : PH) (i j : Nat) (W : World) : Prop :=
  ∃ L' H tr, Hp W base hb L' H tr [((H2.cells.length : Int), ((0 : Nat) : Int))] 900 ∧ HSt w0 L W L' ∧ Und H2 i j H tr
/-- Behind Undo. -/
def HuN (w0 : World) (base hb : Nat) (L : List Nat) (H2 : PH) (W : World) : Prop :=
  ∃ L' H tr i j, Hp W base hb L' (undP H2 H) [] [((H2.cells.length : Int), ((0 : Nat) : Int))] 900 ∧ HSt w0 L W L' ∧ i ≤ 5 ∧ Und H2 i j H tr
/-- Behind Drop. -/
def HuD (w0 : World) (base hb : Nat) (L : List Nat) (W : World) : Prop :=
  ∃ L' H, Hp W base hb L' H [] [] 900 ∧ HSt w0 L W L'
theorem HuW.keep {i j : Nat} {W W' : World} (h : HuW w0 base hb L H2 i j W) (k : Keeps W W' []) : HuW w0 base hb L H2 i j W' := by
  obtain ⟨L', H, tr, h1, h2, h3⟩ := h
  exact ⟨L', H, tr, h1.keep k (by simp), h2.keep0 k, h3⟩
theorem HuW.more {i j j' : Nat} {W : World} (h : HuW w0 base hb L H2 i j W) (hj : j ≤ j') : HuW w0 base hb L H2 i j' W := by
  obtain ⟨L', H, tr, h1, h2, h3⟩ := h
  exact ⟨L', H, tr, h1, h2, h3.more hj⟩
theorem HuW.keeps {i j : Nat} {W : World} (h : HuW w0 base hb L H2 i j W) : Keeps w0 W L := by
  obtain ⟨L', H, tr, h1, h2, h3⟩ := h
  exact h2.keep
theorem HuN.keep {W W' : World} (h : HuN w0 base hb L H2 W) (k : Keeps W W' []) : HuN w0 base hb L H2 W' := by
  obtain ⟨L', H, tr, i, j, h1, h2, h3⟩ := h
  exact ⟨L', H, tr, i, j, h1.keep k (by simp), h2.keep0 k, h3⟩
theorem HuN.keeps {W : World} (h : HuN w0 base hb L H2 W) : Keeps w0 W L := by
  obtain ⟨L', H, tr, i, j, h1, h2, h3⟩ := h
  exact h2.keep
theorem HuD.keep {W W' : World} (h : HuD w0 base hb L W) (k : Keeps W W' []) : HuD w0 base hb L W' := by
  obtain ⟨L', H, h1, h2⟩ := h
  exact ⟨L', H, h1.keep k (by simp), h2.keep0 k⟩
theorem HuD.keeps {W : World} (h : HuD w0 base hb L W) : Keeps w0 W L := by
  obtain ⟨L', H, h1, h2⟩ := h
  exact h2.keep
theorem hp_bytes {w : World} {L : List Nat} {H : PH} {tr : List Int} {mk : List (Int × Int)} {room : Nat} (h : Hp w base hb L H tr mk room) : ∀ x ∈ H.cells, 0 ≤ x ∧ x < 18446744073709551616 := by
  obtain ⟨ag, ah, vb, AA, FA, TA, MA, ca, nt, ct, nm, cm, cf, _, hm⟩ := h
  exact hm.ar.bytes
/-- Mark. -/
theorem umark_any {W : World} (h : Hp W base hb L H2 [] [] 900) (u : Und H2 0 0 H2 []) : Calls Tryz.prog 9 #[.pointer (some ⟨hb, 0, none⟩)] W fun e w' => e = .returned (.tuple #[]) ∧ HuW W base hb L H2 0 0 w' := by
  refine (hmark_any h (by simp)).mono ?_
  rintro e w' ⟨rfl, L', h1, h2⟩
  exact ⟨rfl, L', H2, [], h1, h2, u⟩
/-- Read of whatever cell. -/
theorem uread_any {i j : Nat} {W : World} (h : HuW w0 base hb L H2 i j W) {c : Int} (hc : COk c) : Calls Tryz.prog 12 #[.pointer (some ⟨hb, 0, none⟩), .int .u64 c] W fun e w' => ∃ v er, e = .returned (.tuple #[tvV v, .int .i64 er]) ∧ Keeps W w' [] ∧ ∃ t, Tr w' (fun _ => True) t v ∧ tSize t ≤ 10000 := by
  obtain ⟨L', H, tr, h1, h2, h3⟩ := h
  obtain ⟨ag, ah, vb, AA, FA, TA, MA, ca, nt, ct, nm, cm, cf, _, hm⟩ := h1
  refine (hread_any h3.ok hm c hc.1 hc.2.1 hc.2.2).mono ?_
  rintro e w' ⟨v, er, rfl, k, ⟨t, ht, hs⟩, _⟩
  exact ⟨v, er, rfl, k, t, ht.mono fun _ _ => trivial, hs⟩
/-- Build of one more. -/
theorem ubuild_any {i j : Nat} {W0 W : World} (h : HuW w0 base hb L H2 i j W0) (k : Keeps W0 W []) (hi : i ≤ 4) {t : Tm} (ht : tRight t = true) (hs : tSize t ≤ 38) {v : TV} (hv : Tr W (fun b => W0.heap.size ≤ b) t v) :
    Calls Tryz.prog 10 #[.pointer (some ⟨hb, 0, none⟩), tvV v] W fun e w' => ∃ c, e = .returned (.tuple #[.int .u64 c, .bool true]) ∧ COk c ∧ HuW w0 base hb L H2 (i + 1) j w' := by
  obtain ⟨L', H, tr, h1, h2, h3⟩ := h
  obtain ⟨hf, hu, hc⟩ := h3.build hi ht hs
  have hlt := h1.lt
  refine (build_any base hb tr _ 900 t v W L' H (h1.keep k (by simp)) h3.ok.vb (hv.mono fun b hb hm => by have := hlt b hm; omega) ht hf).mono ?_
  rintro e w' ⟨rfl, L2, h4, h5⟩
  exact ⟨_, rfl, hc, L2, _, tr, h4, (h2.keep0 k).trans h5, hu⟩
/-- Unify. -/
theorem uunify_any {i j : Nat} {W : World} (h : HuW w0 base hb L H2 i j W) (hj : j ≤ 20) {a b : Int} (ha : COk a) (hb' : COk b) :
    Calls Tryz.prog 15 #[.pointer (some ⟨hb, 0, none⟩), .int .u64 a, .int .u64 b] W fun e w' => ∃ x y, e = .returned (.tuple #[.bool x, .int .i64 y]) ∧ HuW w0 base hb L H2 i (j + 1) w' := by
  obtain ⟨L', H, tr, h1, h2, h3⟩ := h
  have hf := h3.few
  refine (hunify_any h1 h3.ok a b (ha.two hb') (by omega)).mono ?_
  rintro e w' ⟨rfl, L2, h4, h5⟩
  exact ⟨_, _, rfl, L2, _, _, h4, h2.trans h5, h3.unify (hp_bytes h1) (ha.two hb')⟩
/-- Undo. -/
theorem uundo_any {i j : Nat} {W : World} (h : HuW w0 base hb L H2 i j W) (hi : i ≤ 5) (hj : j ≤ 20) :
    Calls Tryz.prog 16 #[.pointer (some ⟨hb, 0, none⟩)] W fun e w' => e = .returned (.bool true) ∧ HuN w0 base hb L H2 w' := by
  obtain ⟨L', H, tr, h1, h2, h3⟩ := h
  have hf := h3.few
  refine (hundo_yes (mk0 := []) (c := H2.cells.length) (t := 0) h1 (Nat.zero_le _) h3.inv.len h3.places h3.inj (fun n p hp => by obtain ⟨q, rfl, _⟩ := h3.ok.vars n p hp; omega) (by omega)).mono ?_
  rintro e w' ⟨rfl, L2, h4, h5⟩
  rw [h3.back] at h4
  exact ⟨rfl, L2, H, tr, i, j, h4, h2.trans h5, hi, h3⟩
/-- Cells, as they were. -/
theorem ucells_any {W : World} (h : HuN w0 base hb L H2 W) : Calls Tryz.prog 8 #[.pointer (some ⟨hb, 0, none⟩)] W (Copied W 28 H2.cells) := by
  obtain ⟨L', H, tr, i, j, h1, h2, h3⟩ := h
  obtain ⟨ag, ah, vb, AA, FA, TA, MA, ca, nt, ct, nm, cm, cf, _, hm⟩ := h1
  exact (show Calls _ _ _ _ (Copied W 28 (undP H2 H).cells) from hcells_any hm)
theorem utrail_any {W : World} (h : HuN w0 base hb L H2 W) : Calls Tryz.prog 18 #[.pointer (some ⟨hb, 0, none⟩)] W fun e w' => ∃ A c, e = .returned (.slice A 0 c) ∧ Keeps W w' [] := by
  obtain ⟨L', H, tr, i, j, h1, h2, h3⟩ := h
  exact htrail_any h1 (by simp)
/-- Read of a cell that was there. -/
theorem uread2_any {W : World} (h : HuN w0 base hb L H2 W) (h2 : HOk H2) {c : Int} (hc : COk c) {t : Tm} (hr : Rp H2 c t) (hs : (tSize t : Int) ≤ 10000) (hv : ∀ n ∈ tV t, n ≤ 999) :
    Calls Tryz.prog 12 #[.pointer (some ⟨hb, 0, none⟩), .int .u64 c] W fun e w' => ∃ v, e = .returned (.tuple #[tvV v, .int .i64 0]) ∧ Tr w' (fun _ => True) t v ∧ Keeps W w' [] := by
  obtain ⟨L', H, tr, i, j, h1, h3, hi, hu⟩ := h
  obtain ⟨ag, ah, vb, AA, FA, TA, MA, ca, nt, ct, nm, cm, cf, _, hm⟩ := h1
  refine (hread_any (hu.hok h2) hm c hc.1 hc.2.1 hc.2.2).mono ?_
  rintro e w' ⟨v, er, rfl, k, _, h⟩
  obtain ⟨rfl, ht⟩ := h _ (hu.rg hi hr) hs hv
  exact ⟨v, rfl, ht.mono fun _ _ => trivial, k⟩
theorem udrop_yes {W : World} (h : HuN w0 base hb L H2 W) : Calls Tryz.prog 20 #[.pointer (some ⟨hb, 0, none⟩)] W fun e w' => e = .returned (.bool true) ∧ HuD w0 base hb L w' := by
  obtain ⟨L', H, tr, i, j, h1, h3, hi, hu⟩ := h
  refine (hdrop_yes (mk0 := []) h1).mono ?_
  rintro e w' ⟨rfl, L2, h4, h5⟩
  exact ⟨rfl, L2, _, h4, h3.trans h5⟩
theorem udrop_no {W : World} (h : HuD w0 base hb L W) : Calls Tryz.prog 20 #[.pointer (some ⟨hb, 0, none⟩)] W fun e w' => e = .returned (.bool false) ∧ W = w' := by
  obtain ⟨L', H, h1, h3⟩ := h
  exact hdrop_no h1 rfl
end
end Go.Proofs.YtnonfmaehfmigaaGreatDoor
