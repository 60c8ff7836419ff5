/- The document's take. -/
import Derived.Test.YtnonfmaehfmigaaGreatDoorTmTermB
namespace Go.Proofs.YtnonfmaehfmigaaGreatDoor
open Go.RowKit

theorem Keeps.ofDrewN' (w : World) (k : Nat) : Keeps w (w.drewN k) [] := ⟨rfl, rfl, rfl, Nat.le_refl _, fun _ _ _ => rfl⟩
/-- What take tells of a text. -/
structure TakeIs (l : Txt) (t : Tm) (n : Nat) (r : Option (Tm × Txt)) : Prop where
  no : r = none → n = 0
  yes : ∀ x, r = some x → t = x.1 ∧ 0 < n ∧ n + x.2.length = l.length ∧ x.2 = l.drop n
def TakeDone (w : World) (l : Txt) (r : Option (Tm × Txt)) (e : Ending) (w' : World) : Prop :=
  ∃ t v, ∃ n : Nat, e = .returned (.tuple #[tvV v, .int .i64 n]) ∧ Tr w' (fun b => w.heap.size ≤ b) t v ∧ Keeps w w' [] ∧ TakeIs l t n r
theorem TakeDone.hand {w wr : World} {l : Txt} {g n : Nat} {r : Option (Tm × Txt)} {t : Tm} {v : TV} (ht : Tr wr (fun b => w.heap.size ≤ b ∧ b ≠ g) t v) (k : Keeps w wr []) (h : TakeIs l t n r) (hg : w.heap.size ≤ g) (v0 v1 v2 v3 : Value) :
    TakeDone w l r (.returned (.tuple #[tvV v, .int .i64 n])) ((((wr.setCell ⟨g, 0, none⟩ v0).setCell ⟨g, 1, none⟩ v1).setCell ⟨g, 2, none⟩ v2).setCell ⟨g, 3, none⟩ v3) :=
  ⟨t, v, n, rfl, (ht.keepL (keeps_self4 wr g v0 v1 v2 v3) (fun b hb h => h.2 (by simpa using hb))).mono fun b hb => hb.1, keeps_set4 k hg _ _ _ _, h⟩
/-- None: nothing is written behind the block's making. -/
theorem TakeDone.none0 {w wr : World} {l : Txt} (k : Keeps w wr []) : TakeDone w l none (.returned (.tuple #[.agg #[.int .i64 0, .int .i64 0, .string ⟨#[]⟩, .slice none 0 0], .int .i64 0])) wr :=
  ⟨.mk 0 0 ⟨#[]⟩ [], ⟨0, 0, ⟨#[]⟩, none, 0, 0⟩, 0, rfl, Tr.leaf _ _ _ _ _ (by decide), k, fun _ => rfl, fun x hx => by cases hx⟩
theorem TakeDone.none4 {w wr : World} {l : Txt} (k : Keeps w wr []) {g : Nat} (hg : w.heap.size ≤ g) (v0 v1 v2 v3 : Value) :
    TakeDone w l none (.returned (.tuple #[.agg #[.int .i64 0, .int .i64 0, .string ⟨#[]⟩, .slice none 0 0], .int .i64 0])) ((((wr.setCell ⟨g, 0, none⟩ v0).setCell ⟨g, 1, none⟩ v1).setCell ⟨g, 2, none⟩ v2).setCell ⟨g, 3, none⟩ v3) := .none0 (keeps_set4 k hg _ _ _ _)

set_option maxRecDepth 100000 in
set_option maxHeartbeats 800000 in
theorem take_nil (s : ByteArray) (w : World) (h0 : s.size = 0) : Calls Tryz.prog 46 #[.string s] w (TakeDone w s.data.toList none) := by
  have d0 : s.toList.isEmpty = true := by rw [empty_size]; simpa using h0
  have HB0 : Hid (Blk (w.alloc (.cells #[.int .i64 0, .int .i64 0, .string ⟨#[]⟩, .slice none 0 0] 24)) w.heap.size 24 #[.int .i64 0, .int .i64 0, .string ⟨#[]⟩, .slice none 0 0]) := Blk.new _ _ _
  have HD : Hid (TakeDone w s.data.toList none (.returned (.tuple #[.agg #[.int .i64 0, .int .i64 0, .string ⟨#[]⟩, .slice none 0 0], .int .i64 0])) (w.alloc (.cells #[.int .i64 0, .int .i64 0, .string ⟨#[]⟩, .slice none 0 0] 24))) := TakeDone.none0 ((Keeps.refl w []).alloc _)
  unfold TakeDone at HD ⊢
  go_enter Tryz.func46, Tryz.ntmps46
  go_wp2_with fail
  exact bodyPost_ret (v := .tuple #[.agg #[.int .i64 0, .int .i64 0, .string ⟨#[]⟩, .slice none 0 0], .int .i64 0]) (by simp [results, Tryz.results46, go_sem, *]) rfl HD.out

theorem head_at {s : ByteArray} (h : 0 < s.size) : s.data.toList.head? = some s[0] := by rw [List.head?_eq_getElem?]; exact dat_at s 0 h
theorem pos_of {s : ByteArray} {c : UInt8} (h : s.data.toList.head? = some c) : 0 < s.size := by
  have e : s.data.toList.length = s.size := rfl
  cases hl : s.data.toList with
  | nil => rw [hl] at h; cases h
  | cons a b => rw [hl] at e; simp at e; omega
theorem dig_val {c : UInt8} (h : isDig c = true) : 48 ≤ c.toNat ∧ c.toNat ≤ 57 := by simpa [isDig] using h
theorem valT_le (l : Txt) (h : ∀ c ∈ l, isDig c = true) : valT l < 10 ^ l.length := by
  have go : ∀ (l : Txt) (a : Nat), (∀ c ∈ l, isDig c = true) → l.foldl (fun n c => 10 * n + (c.toNat - 48)) a < (a + 1) * 10 ^ l.length := by
    intro l
    induction l with
    | nil => intro a _; simp
    | cons c l ih =>
      intro a h
      have h2 := dig_val (h c (by simp))
      have h1 := ih (10 * a + (c.toNat - 48)) (fun x hx => h x (by simp [hx]))
      rw [List.foldl_cons, List.length_cons, Nat.pow_succ]
      refine Nat.lt_of_lt_of_le h1 ?_
      rw [Nat.mul_comm (10 ^ l.length) 10, ← Nat.mul_assoc]
      exact Nat.mul_le_mul_right _ (by omega)
  have := go l 0 h
  rw [valT]
  simpa using this
/-- Where the digits end. -/
theorem dig_stop {r : Txt} {i : Nat} (h1 : ∀ c ∈ r.take i, isDig c = true) (hi : i ≤ r.length) (h4 : i ≤ 4) (h2 : i = 4 ∨ ∀ c, r[i]? = some c → isDig c = false) : (r.takeWhile isDig).take 4 = r.take i := by
  have key : ∀ (r : Txt) (i : Nat), (∀ c ∈ r.take i, isDig c = true) → i ≤ r.length → r.take i <+: r.takeWhile isDig := by
    intro r
    induction r with
    | nil => intro i _ _; simp
    | cons c r ih =>
      intro i h hi
      cases i with
      | zero => simp
      | succ i =>
        have hc := h c (by simp)
        rw [List.take_succ_cons, List.takeWhile_cons, if_pos hc]
        exact (List.cons_prefix_cons).2 ⟨rfl, ih i (fun d hd => h d (by simp [hd])) (by simpa using hi)⟩
  have hp := key r i h1 hi
  rcases h2 with rfl | h2
  · have e := List.prefix_iff_eq_take.1 hp
    rw [List.length_take, Nat.min_eq_left hi] at e
    exact e.symm
  · have ht := take_stop (p := isDig) (a := r.take i) (b := r.drop i) h1 (fun c hc => h2 c (by rw [List.head?_drop] at hc; exact hc))
    rw [List.take_append_drop] at ht
    rw [ht.1, List.take_of_length_le (by rw [List.length_take]; omega)]
set_option maxRecDepth 100000 in
set_option maxHeartbeats 6400000 in
theorem take_var (s : ByteArray) (w : World) (h : s.data.toList.head? = some 88) (hf : s.size ≤ 10000) : Calls Tryz.prog 46 #[.string s] w (TakeDone w s.data.toList ((numR s.data.toList.tail).bind fun x => some (.mk 0 x.1 ⟨#[]⟩ [], x.2))) := by
  have h3 := pos_of h
  have hsl : s.data.toList.length = s.size := rfl
  have d0 : s.toList.isEmpty = false := by rw [empty_size]; exact decide_eq_false (by omega)
  have e0 : s[0] = 88 := by have := head_at h3; rw [h] at this; injection this with this; exact this.symm
  have d1 : ((s[0].toNat : Int) == 88) = true := by rw [e0]; rfl
  have HB0 : Hid (Blk (w.alloc (.cells #[.int .i64 0, .int .i64 0, .string ⟨#[]⟩, .slice none 0 0] 24)) w.heap.size 24 #[.int .i64 0, .int .i64 0, .string ⟨#[]⟩, .slice none 0 0]) := Blk.new _ _ _
  have HK0 : Hid (Keeps w (w.alloc (.cells #[.int .i64 0, .int .i64 0, .string ⟨#[]⟩, .slice none 0 0] 24)) []) := (Keeps.refl w []).alloc _
  have HH := Lib.hid (head_tail h)
  have hb := HB0.out
  have zc0 := hb.cell 0
  have zf0 := hb.frozen 0
  have zc1 := hb.cell 1
  have zf1 := hb.frozen 1
  have zc2 := hb.cell 2
  have zf2 := hb.frozen 2
  have zc3 := hb.cell 3
  have zf3 := hb.frozen 3
  clear hb e0 h
  have htl : s.data.toList.tail.length = s.size - 1 := by rw [List.length_tail]; rfl
  generalize hr : s.data.toList.tail = r at *
  have HR := Lib.hid hr
  have hat : ∀ k (hk : k < s.size), 1 ≤ k → r[k - 1]? = some s[k] := fun k hk h1 => by
    rw [← hr, List.getElem?_tail, show k - 1 + 1 = k by omega]
    exact dat_at s k hk
  have HAT := Lib.hid hat
  clear hr hat
  obtain ⟨R, hRe⟩ : ∃ R, ((numR r).bind fun x => some ((.mk 0 x.1 ⟨#[]⟩ [] : Tm), x.2)) = R := ⟨_, rfl⟩
  have HE : Hid (R = (numR r).bind fun x => some ((.mk 0 x.1 ⟨#[]⟩ [] : Tm), x.2)) := hRe.symm
  rw [hRe]
  clear hRe
  unfold TakeDone
  go_enter Tryz.func46, Tryz.ntmps46
  go_wp2_with fail
  go_loop [4, 5] (fun n k => ∃ q : Nat, 1 ≤ q ∧ q ≤ 5 ∧ q ≤ s.size ∧ k = .int .i64 q ∧ n = .int .i64 (valT (r.take (q - 1)) : Nat) ∧ Hid (∀ c ∈ r.take (q - 1), isDig c = true)) (fun _ k => s.size - (intOf k).toNat)
  case atStart => exact ⟨1, by omega, by omega, by omega, rfl, rfl, fun y hy => by simp at hy⟩
  case round =>
    obtain ⟨q, h1, h5, hqs, rfl, rfl, HA⟩ := hrel
    have hvb : valT (r.take (q - 1)) < 10 ^ 4 := by
      refine Nat.lt_of_lt_of_le (valT_le _ HA.out) (Nat.pow_le_pow_right (by omega) ?_)
      rw [List.length_take]; omega
    clear d0 d1
    by_cases hgo : ∃ hlt : q < s.size, q < 5 ∧ isDig s[q] = true
    · obtain ⟨hlt, hq5, hd⟩ := hgo
      have hdv := dig_val hd
      have e1 : decide ((q : Int) < (s.size : Int)) = true := by simp; omega
      have e2 : decide ((q : Int) < 5) = true := by simp; omega
      have e3 : decide ((48 : Int) ≤ (s[q].toNat : Int)) = true := by simp; omega
      have e4 : decide ((s[q].toNat : Int) ≤ 57) = true := by simp; omega
      have hx := HAT.out q hlt h1
      have htk : r.take q = r.take (q - 1) ++ [s[q]] := by
        have h9 := List.take_add_one (l := r) (i := q - 1)
        rw [hx, show q - 1 + 1 = q by omega] at h9
        exact h9
      have HA2 : Hid (∀ c ∈ r.take q, isDig c = true) := by
        intro c hc
        rw [htk] at hc
        rcases List.mem_append.1 hc with hc | hc
        · exact HA.out c hc
        · simp at hc; rw [hc]; exact hd
      have HV2 : Hid (valT (r.take q) = 10 * valT (r.take (q - 1)) + (s[q].toNat - 48)) := by show _ = _; rw [htk, valT_snoc]
      clear hx htk hd
      generalize valT (r.take (q - 1)) = vq at *
      go_wp2_with fail
      go_round
      case rel => exact ⟨q + 1, by omega, by omega, by omega, by go_num, by rw [show q + 1 - 1 = q by omega, HV2.out]; go_num, by rw [show q + 1 - 1 = q by omega]; exact HA2⟩
      case measure => simp [intOf]; omega
    · have hds : (r.takeWhile isDig).take 4 = r.take (q - 1) := dig_stop HA.out (by omega) (by omega) (by
        by_cases h6 : q = 5
        · left; omega
        · right
          intro c hc
          by_cases hlt : q < s.size
          · rw [HAT.out q hlt h1] at hc
            cases hc
            cases hd : isDig s[q] with
            | false => rfl
            | true => exact absurd ⟨hlt, by omega, hd⟩ hgo
          · have := (List.getElem?_eq_some_iff.1 hc).1
            omega)
      have HDS := Lib.hid hds
      clear hds
      by_cases x1 : q < s.size
      · by_cases x2 : q < 5
        · by_cases x3 : 48 ≤ s[q].toNat
          · have x4 : ¬ s[q].toNat ≤ 57 := fun h => hgo ⟨x1, x2, by simp [isDig, x3, h]⟩
            have e1 : decide ((q : Int) < (s.size : Int)) = true := by simp; omega
            have e2 : decide ((q : Int) < 5) = true := by simp; omega
            have e3 : decide ((48 : Int) ≤ (s[q].toNat : Int)) = true := by simp; omega
            have e4 : decide ((s[q].toNat : Int) ≤ 57) = false := by simp; omega
            clear hgo x2 x3 x4
            go_upto_region 8 with fail
            by_cases hq1 : q = 1
            · have f1 : ((q : Int) == 1) = true := by simp; omega
              have HN : R = none := by
                rw [HE.out, numR, HDS.out, if_neg]
                · rfl
                rw [hq1]
                exact digits_ne _
              have HD := Lib.hid (TakeDone.none0 (l := s.data.toList) HK0.out.drew)
              rw [← HN] at HD
              unfold TakeDone at HD
              clear HN
              refine wp_region_tx (fun _ => True) [(0, true), (1, true), (2, true), (3, true), (4, true), (5, true), (6, true), (7, true), (8, true), (9, false)] (by kernel_rfl) (by kernel_rfl) trivial (fun hHeld => ?_)
              (repeat (first | (refine wpTx_take (v := ?_) rfl (by assumption) ?_ (by rfl) ?_; rotate_left; (focus (intro w' hSw; (try dsimp only at hSw); go_simp; (try with_reducible rfl); done)); simp only [Act.put, List.setIfInBounds_toArray, List.set_cons_zero, List.set_cons_succ]) | (refine wpTx_skip rfl (by assumption) (by rfl) ?_; simp only [Act.put, List.setIfInBounds_toArray, List.set_cons_zero, List.set_cons_succ])))
              refine wpTx_last rfl (fun K hK => ?_)
              go_simp
              refine hK.out _ _ (NoPanic.normal ?_); clear hK K; (try simp only [Act.put, List.setIfInBounds_toArray, List.set_cons_zero, List.set_cons_succ])
              go_wp2_with fail
              exact bodyPost_ret (v := .tuple #[.agg #[.int .i64 0, .int .i64 0, .string ⟨#[]⟩, .slice none 0 0], .int .i64 0]) (by simp [results, Tryz.results46, go_sem, *]) rfl HD.out
            · have f1 : ((q : Int) == 1) = false := by simp; omega
              have g1 : (1 : Int) ≤ (q : Int) := by omega
              have g2 : (q : Int) ≤ (s.size : Int) := by omega
              have hpc : s.extract 1 q = stB (r.take (q - 1)) := by rw [piece_is, ← HR.out, ← List.drop_one, List.drop_take]
              have HPC := Lib.hid hpc
              have HNum := Lib.hid (fun w' => num_any (valT (r.take (q - 1))) w' (by omega))
              refine wp_region_tx (fun _ => True) [(0, true), (1, true), (2, true), (3, true), (5, true), (6, true), (7, true), (4, false), (8, false), (9, false)] (by kernel_rfl) (by kernel_rfl) trivial (fun hHeld => ?_)
              (repeat (first | (refine wpTx_take (v := ?_) rfl (by assumption) ?_ (by rfl) ?_; rotate_left; (focus (intro w' hSw; (try dsimp only at hSw); go_simp; (try with_reducible rfl); done)); simp only [Act.put, List.setIfInBounds_toArray, List.set_cons_zero, List.set_cons_succ]) | (refine wpTx_skip rfl (by assumption) (by rfl) ?_; simp only [Act.put, List.setIfInBounds_toArray, List.set_cons_zero, List.set_cons_succ])))
              refine wpTx_go rfl (fun K hK => ?_)
              go_simp
              refine (HNum.out _).mono ?_
              rintro e w5 ⟨rfl, m5, rfl⟩
              refine hK.out _ _ ?_ ?_
              · trivial
              by_cases he : Lib.decDigits (valT (r.take (q - 1))) = r.take (q - 1)
              · have hb : ((digits (valT (r.take (q - 1)))).toList == (stB (r.take (q - 1))).toList) = true := by
                  show ((stB (Lib.decDigits (valT (r.take (q - 1))))).toList == _) = true
                  rw [he]; simp
                have HS : R = some (.mk 0 (valT (r.take (q - 1)) : Nat) ⟨#[]⟩ [], r.drop (q - 1)) := by
                  rw [HE.out, numR, HDS.out, if_pos he]
                  show some (_, r.drop (r.take (q - 1)).length) = _
                  rw [List.length_take, Nat.min_eq_left (by omega)]
                have hdr : r.drop (q - 1) = s.data.toList.drop q := by
                  rw [HH.out, show q = (q - 1) + 1 by omega, List.drop_succ_cons]
                  rfl
                have HTI : Hid (TakeIs s.data.toList (.mk 0 (valT (r.take (q - 1)) : Nat) ⟨#[]⟩ []) q R) := by
                  refine ⟨fun h => by rw [HS] at h; (cases h), fun x hx => ?_⟩
                  rw [HS] at hx
                  cases hx
                  refine ⟨rfl, by omega, ?_, hdr⟩
                  show q + (r.drop (q - 1)).length = _
                  rw [List.length_drop]
                  have : s.data.toList.length = s.size := rfl
                  omega
                clear HS hdr he
                generalize valT (r.take (q - 1)) = vq at *
                (clear hHeld; intro hHeld; clear hK K; (try simp only [Act.put, List.setIfInBounds_toArray, List.set_cons_zero, List.set_cons_succ]))
                refine wpTx_go rfl (fun K hK => ?_)
                go_simp
                refine hK.out _ _ ?_ ?_
                · trivial
                (clear hHeld; intro hHeld; clear hK K)
                refine wpTx_last rfl (fun K hK => ?_)
                go_simp
                refine hK.out _ _ (NoPanic.normal ?_); clear hK K; (try simp only [Act.put, List.setIfInBounds_toArray, List.set_cons_zero, List.set_cons_succ])
                go_wp2_with fail
                exact bodyPost_ret (v := .tuple #[.agg #[.int .i64 0, .int .i64 (vq : Nat), .string ⟨#[]⟩, .slice none 0 0], .int .i64 (q : Nat)]) (by simp [results, Tryz.results46, go_sem, *]) rfl ⟨.mk 0 (vq : Nat) ⟨#[]⟩ [], ⟨0, (vq : Nat), ⟨#[]⟩, none, 0, 0⟩, q, rfl, Tr.leaf _ _ _ _ _ (by decide), (by first | exact ((Keeps.refl w []).alloc _).drewN _ | exact keeps_set4 (((Keeps.refl w []).alloc _).drewN _) (Nat.le_refl _) _ _ _ _), HTI.out⟩
              · have hb : ((digits (valT (r.take (q - 1)))).toList == (stB (r.take (q - 1))).toList) = false := by
                  cases hh : ((digits (valT (r.take (q - 1)))).toList == (stB (r.take (q - 1))).toList) with
                  | false => rfl
                  | true =>
                    have h9 := bytes_eq.1 hh
                    rw [stB_list] at h9
                    have h8 : (digits (valT (r.take (q - 1)))).data.toList = Lib.decDigits (valT (r.take (q - 1))) := by
                      show (stB _).data.toList = _
                      rw [stB_list]
                    exact absurd (h8.symm.trans h9) he
                have HN : R = none := by
                  rw [HE.out, numR, HDS.out, if_neg he]
                  rfl
                have HN := Lib.hid HN
                clear he
                (clear hHeld; intro hHeld; clear hK K; (try simp only [Act.put, List.setIfInBounds_toArray, List.set_cons_zero, List.set_cons_succ]))
                refine wpTx_go rfl (fun K hK => ?_)
                go_simp
                refine hK.out _ _ ?_ ?_
                · trivial
                (clear hHeld; intro hHeld; clear hK K)
                refine wpTx_last rfl (fun K hK => ?_)
                go_simp
                refine hK.out _ _ (NoPanic.normal ?_); clear hK K; (try simp only [Act.put, List.setIfInBounds_toArray, List.set_cons_zero, List.set_cons_succ])
                go_wp2_with fail
                exact bodyPost_ret (v := .tuple #[.agg #[.int .i64 0, .int .i64 0, .string ⟨#[]⟩, .slice none 0 0], .int .i64 0]) (by simp [results, Tryz.results46, go_sem, *]) rfl ⟨.mk 0 0 ⟨#[]⟩ [], ⟨0, 0, ⟨#[]⟩, none, 0, 0⟩, 0, rfl, Tr.leaf _ _ _ _ _ (by decide), (by first | exact ((Keeps.refl w []).alloc _).drewN _ | exact keeps_set4 (((Keeps.refl w []).alloc _).drewN _) (Nat.le_refl _) _ _ _ _), fun _ => rfl, fun x hx => by first | (rw [HN.out] at hx; cases hx) | cases hx⟩
          · have e1 : decide ((q : Int) < (s.size : Int)) = true := by simp; omega
            have e2 : decide ((q : Int) < 5) = true := by simp; omega
            have e3 : decide ((48 : Int) ≤ (s[q].toNat : Int)) = false := by simp; omega
            clear hgo x2 x3
            go_upto_region 8 with fail
            by_cases hq1 : q = 1
            · have f1 : ((q : Int) == 1) = true := by simp; omega
              have HN : R = none := by
                rw [HE.out, numR, HDS.out, if_neg]
                · rfl
                rw [hq1]
                exact digits_ne _
              have HD := Lib.hid (TakeDone.none0 (l := s.data.toList) HK0.out.drew)
              rw [← HN] at HD
              unfold TakeDone at HD
              clear HN
              refine wp_region_tx (fun _ => True) [(0, true), (1, true), (2, true), (3, true), (4, true), (5, true), (6, true), (7, true), (8, true), (9, false)] (by kernel_rfl) (by kernel_rfl) trivial (fun hHeld => ?_)
              (repeat (first | (refine wpTx_take (v := ?_) rfl (by assumption) ?_ (by rfl) ?_; rotate_left; (focus (intro w' hSw; (try dsimp only at hSw); go_simp; (try with_reducible rfl); done)); simp only [Act.put, List.setIfInBounds_toArray, List.set_cons_zero, List.set_cons_succ]) | (refine wpTx_skip rfl (by assumption) (by rfl) ?_; simp only [Act.put, List.setIfInBounds_toArray, List.set_cons_zero, List.set_cons_succ])))
              refine wpTx_last rfl (fun K hK => ?_)
              go_simp
              refine hK.out _ _ (NoPanic.normal ?_); clear hK K; (try simp only [Act.put, List.setIfInBounds_toArray, List.set_cons_zero, List.set_cons_succ])
              go_wp2_with fail
              exact bodyPost_ret (v := .tuple #[.agg #[.int .i64 0, .int .i64 0, .string ⟨#[]⟩, .slice none 0 0], .int .i64 0]) (by simp [results, Tryz.results46, go_sem, *]) rfl HD.out
            · have f1 : ((q : Int) == 1) = false := by simp; omega
              have g1 : (1 : Int) ≤ (q : Int) := by omega
              have g2 : (q : Int) ≤ (s.size : Int) := by omega
              have hpc : s.extract 1 q = stB (r.take (q - 1)) := by rw [piece_is, ← HR.out, ← List.drop_one, List.drop_take]
              have HPC := Lib.hid hpc
              have HNum := Lib.hid (fun w' => num_any (valT (r.take (q - 1))) w' (by omega))
              refine wp_region_tx (fun _ => True) [(0, true), (1, true), (2, true), (3, true), (5, true), (6, true), (7, true), (4, false), (8, false), (9, false)] (by kernel_rfl) (by kernel_rfl) trivial (fun hHeld => ?_)
              (repeat (first | (refine wpTx_take (v := ?_) rfl (by assumption) ?_ (by rfl) ?_; rotate_left; (focus (intro w' hSw; (try dsimp only at hSw); go_simp; (try with_reducible rfl); done)); simp only [Act.put, List.setIfInBounds_toArray, List.set_cons_zero, List.set_cons_succ]) | (refine wpTx_skip rfl (by assumption) (by rfl) ?_; simp only [Act.put, List.setIfInBounds_toArray, List.set_cons_zero, List.set_cons_succ])))
              refine wpTx_go rfl (fun K hK => ?_)
              go_simp
              refine (HNum.out _).mono ?_
              rintro e w5 ⟨rfl, m5, rfl⟩
              refine hK.out _ _ ?_ ?_
              · trivial
              by_cases he : Lib.decDigits (valT (r.take (q - 1))) = r.take (q - 1)
              · have hb : ((digits (valT (r.take (q - 1)))).toList == (stB (r.take (q - 1))).toList) = true := by
                  show ((stB (Lib.decDigits (valT (r.take (q - 1))))).toList == _) = true
                  rw [he]; simp
                have HS : R = some (.mk 0 (valT (r.take (q - 1)) : Nat) ⟨#[]⟩ [], r.drop (q - 1)) := by
                  rw [HE.out, numR, HDS.out, if_pos he]
                  show some (_, r.drop (r.take (q - 1)).length) = _
                  rw [List.length_take, Nat.min_eq_left (by omega)]
                have hdr : r.drop (q - 1) = s.data.toList.drop q := by
                  rw [HH.out, show q = (q - 1) + 1 by omega, List.drop_succ_cons]
                  rfl
                have HTI : Hid (TakeIs s.data.toList (.mk 0 (valT (r.take (q - 1)) : Nat) ⟨#[]⟩ []) q R) := by
                  refine ⟨fun h => by rw [HS] at h; (cases h), fun x hx => ?_⟩
                  rw [HS] at hx
                  cases hx
                  refine ⟨rfl, by omega, ?_, hdr⟩
                  show q + (r.drop (q - 1)).length = _
                  rw [List.length_drop]
                  have : s.data.toList.length = s.size := rfl
                  omega
                clear HS hdr he
                generalize valT (r.take (q - 1)) = vq at *
                (clear hHeld; intro hHeld; clear hK K; (try simp only [Act.put, List.setIfInBounds_toArray, List.set_cons_zero, List.set_cons_succ]))
                refine wpTx_go rfl (fun K hK => ?_)
                go_simp
                refine hK.out _ _ ?_ ?_
                · trivial
                (clear hHeld; intro hHeld; clear hK K)
                refine wpTx_last rfl (fun K hK => ?_)
                go_simp
                refine hK.out _ _ (NoPanic.normal ?_); clear hK K; (try simp only [Act.put, List.setIfInBounds_toArray, List.set_cons_zero, List.set_cons_succ])
                go_wp2_with fail
                exact bodyPost_ret (v := .tuple #[.agg #[.int .i64 0, .int .i64 (vq : Nat), .string ⟨#[]⟩, .slice none 0 0], .int .i64 (q : Nat)]) (by simp [results, Tryz.results46, go_sem, *]) rfl ⟨.mk 0 (vq : Nat) ⟨#[]⟩ [], ⟨0, (vq : Nat), ⟨#[]⟩, none, 0, 0⟩, q, rfl, Tr.leaf _ _ _ _ _ (by decide), (by first | exact ((Keeps.refl w []).alloc _).drewN _ | exact keeps_set4 (((Keeps.refl w []).alloc _).drewN _) (Nat.le_refl _) _ _ _ _), HTI.out⟩
              · have hb : ((digits (valT (r.take (q - 1)))).toList == (stB (r.take (q - 1))).toList) = false := by
                  cases hh : ((digits (valT (r.take (q - 1)))).toList == (stB (r.take (q - 1))).toList) with
                  | false => rfl
                  | true =>
                    have h9 := bytes_eq.1 hh
                    rw [stB_list] at h9
                    have h8 : (digits (valT (r.take (q - 1)))).data.toList = Lib.decDigits (valT (r.take (q - 1))) := by
                      show (stB _).data.toList = _
                      rw [stB_list]
                    exact absurd (h8.symm.trans h9) he
                have HN : R = none := by
                  rw [HE.out, numR, HDS.out, if_neg he]
                  rfl
                have HN := Lib.hid HN
                clear he
                (clear hHeld; intro hHeld; clear hK K; (try simp only [Act.put, List.setIfInBounds_toArray, List.set_cons_zero, List.set_cons_succ]))
                refine wpTx_go rfl (fun K hK => ?_)
                go_simp
                refine hK.out _ _ ?_ ?_
                · trivial
                (clear hHeld; intro hHeld; clear hK K)
                refine wpTx_last rfl (fun K hK => ?_)
                go_simp
                refine hK.out _ _ (NoPanic.normal ?_); clear hK K; (try simp only [Act.put, List.setIfInBounds_toArray, List.set_cons_zero, List.set_cons_succ])
                go_wp2_with fail
                exact bodyPost_ret (v := .tuple #[.agg #[.int .i64 0, .int .i64 0, .string ⟨#[]⟩, .slice none 0 0], .int .i64 0]) (by simp [results, Tryz.results46, go_sem, *]) rfl ⟨.mk 0 0 ⟨#[]⟩ [], ⟨0, 0, ⟨#[]⟩, none, 0, 0⟩, 0, rfl, Tr.leaf _ _ _ _ _ (by decide), (by first | exact ((Keeps.refl w []).alloc _).drewN _ | exact keeps_set4 (((Keeps.refl w []).alloc _).drewN _) (Nat.le_refl _) _ _ _ _), fun _ => rfl, fun x hx => by first | (rw [HN.out] at hx; cases hx) | cases hx⟩
        · have e1 : decide ((q : Int) < (s.size : Int)) = true := by simp; omega
          have e2 : decide ((q : Int) < 5) = false := by simp; omega
          clear hgo x2
          go_upto_region 8 with fail
          by_cases hq1 : q = 1
          · have f1 : ((q : Int) == 1) = true := by simp; omega
            have HN : R = none := by
              rw [HE.out, numR, HDS.out, if_neg]
              · rfl
              rw [hq1]
              exact digits_ne _
            have HD := Lib.hid (TakeDone.none0 (l := s.data.toList) HK0.out.drew)
            rw [← HN] at HD
            unfold TakeDone at HD
            clear HN
            refine wp_region_tx (fun _ => True) [(0, true), (1, true), (2, true), (3, true), (4, true), (5, true), (6, true), (7, true), (8, true), (9, false)] (by kernel_rfl) (by kernel_rfl) trivial (fun hHeld => ?_)
            (repeat (first | (refine wpTx_take (v := ?_) rfl (by assumption) ?_ (by rfl) ?_; rotate_left; (focus (intro w' hSw; (try dsimp only at hSw); go_simp; (try with_reducible rfl); done)); simp only [Act.put, List.setIfInBounds_toArray, List.set_cons_zero, List.set_cons_succ]) | (refine wpTx_skip rfl (by assumption) (by rfl) ?_; simp only [Act.put, List.setIfInBounds_toArray, List.set_cons_zero, List.set_cons_succ])))
            refine wpTx_last rfl (fun K hK => ?_)
            go_simp
            refine hK.out _ _ (NoPanic.normal ?_); clear hK K; (try simp only [Act.put, List.setIfInBounds_toArray, List.set_cons_zero, List.set_cons_succ])
            go_wp2_with fail
            exact bodyPost_ret (v := .tuple #[.agg #[.int .i64 0, .int .i64 0, .string ⟨#[]⟩, .slice none 0 0], .int .i64 0]) (by simp [results, Tryz.results46, go_sem, *]) rfl HD.out
          · have f1 : ((q : Int) == 1) = false := by simp; omega
            have g1 : (1 : Int) ≤ (q : Int) := by omega
            have g2 : (q : Int) ≤ (s.size : Int) := by omega
            have hpc : s.extract 1 q = stB (r.take (q - 1)) := by rw [piece_is, ← HR.out, ← List.drop_one, List.drop_take]
            have HPC := Lib.hid hpc
            have HNum := Lib.hid (fun w' => num_any (valT (r.take (q - 1))) w' (by omega))
            refine wp_region_tx (fun _ => True) [(0, true), (1, true), (2, true), (3, true), (5, true), (6, true), (7, true), (4, false), (8, false), (9, false)] (by kernel_rfl) (by kernel_rfl) trivial (fun hHeld => ?_)
            (repeat (first | (refine wpTx_take (v := ?_) rfl (by assumption) ?_ (by rfl) ?_; rotate_left; (focus (intro w' hSw; (try dsimp only at hSw); go_simp; (try with_reducible rfl); done)); simp only [Act.put, List.setIfInBounds_toArray, List.set_cons_zero, List.set_cons_succ]) | (refine wpTx_skip rfl (by assumption) (by rfl) ?_; simp only [Act.put, List.setIfInBounds_toArray, List.set_cons_zero, List.set_cons_succ])))
            refine wpTx_go rfl (fun K hK => ?_)
            go_simp
            refine (HNum.out _).mono ?_
            rintro e w5 ⟨rfl, m5, rfl⟩
            refine hK.out _ _ ?_ ?_
            · trivial
            by_cases he : Lib.decDigits (valT (r.take (q - 1))) = r.take (q - 1)
            · have hb : ((digits (valT (r.take (q - 1)))).toList == (stB (r.take (q - 1))).toList) = true := by
                show ((stB (Lib.decDigits (valT (r.take (q - 1))))).toList == _) = true
                rw [he]; simp
              have HS : R = some (.mk 0 (valT (r.take (q - 1)) : Nat) ⟨#[]⟩ [], r.drop (q - 1)) := by
                rw [HE.out, numR, HDS.out, if_pos he]
                show some (_, r.drop (r.take (q - 1)).length) = _
                rw [List.length_take, Nat.min_eq_left (by omega)]
              have hdr : r.drop (q - 1) = s.data.toList.drop q := by
                rw [HH.out, show q = (q - 1) + 1 by omega, List.drop_succ_cons]
                rfl
              have HTI : Hid (TakeIs s.data.toList (.mk 0 (valT (r.take (q - 1)) : Nat) ⟨#[]⟩ []) q R) := by
                refine ⟨fun h => by rw [HS] at h; (cases h), fun x hx => ?_⟩
                rw [HS] at hx
                cases hx
                refine ⟨rfl, by omega, ?_, hdr⟩
                show q + (r.drop (q - 1)).length = _
                rw [List.length_drop]
                have : s.data.toList.length = s.size := rfl
                omega
              clear HS hdr he
              generalize valT (r.take (q - 1)) = vq at *
              (clear hHeld; intro hHeld; clear hK K; (try simp only [Act.put, List.setIfInBounds_toArray, List.set_cons_zero, List.set_cons_succ]))
              refine wpTx_go rfl (fun K hK => ?_)
              go_simp
              refine hK.out _ _ ?_ ?_
              · trivial
              (clear hHeld; intro hHeld; clear hK K)
              refine wpTx_last rfl (fun K hK => ?_)
              go_simp
              refine hK.out _ _ (NoPanic.normal ?_); clear hK K; (try simp only [Act.put, List.setIfInBounds_toArray, List.set_cons_zero, List.set_cons_succ])
              go_wp2_with fail
              exact bodyPost_ret (v := .tuple #[.agg #[.int .i64 0, .int .i64 (vq : Nat), .string ⟨#[]⟩, .slice none 0 0], .int .i64 (q : Nat)]) (by simp [results, Tryz.results46, go_sem, *]) rfl ⟨.mk 0 (vq : Nat) ⟨#[]⟩ [], ⟨0, (vq : Nat), ⟨#[]⟩, none, 0, 0⟩, q, rfl, Tr.leaf _ _ _ _ _ (by decide), (by first | exact ((Keeps.refl w []).alloc _).drewN _ | exact keeps_set4 (((Keeps.refl w []).alloc _).drewN _) (Nat.le_refl _) _ _ _ _), HTI.out⟩
            · have hb : ((digits (valT (r.take (q - 1)))).toList == (stB (r.take (q - 1))).toList) = false := by
                cases hh : ((digits (valT (r.take (q - 1)))).toList == (stB (r.take (q - 1))).toList) with
                | false => rfl
                | true =>
                  have h9 := bytes_eq.1 hh
                  rw [stB_list] at h9
                  have h8 : (digits (valT (r.take (q - 1)))).data.toList = Lib.decDigits (valT (r.take (q - 1))) := by
                    show (stB _).data.toList = _
                    rw [stB_list]
                  exact absurd (h8.symm.trans h9) he
              have HN : R = none := by
                rw [HE.out, numR, HDS.out, if_neg he]
                rfl
              have HN := Lib.hid HN
              clear he
              (clear hHeld; intro hHeld; clear hK K; (try simp only [Act.put, List.setIfInBounds_toArray, List.set_cons_zero, List.set_cons_succ]))
              refine wpTx_go rfl (fun K hK => ?_)
              go_simp
              refine hK.out _ _ ?_ ?_
              · trivial
              (clear hHeld; intro hHeld; clear hK K)
              refine wpTx_last rfl (fun K hK => ?_)
              go_simp
              refine hK.out _ _ (NoPanic.normal ?_); clear hK K; (try simp only [Act.put, List.setIfInBounds_toArray, List.set_cons_zero, List.set_cons_succ])
              go_wp2_with fail
              exact bodyPost_ret (v := .tuple #[.agg #[.int .i64 0, .int .i64 0, .string ⟨#[]⟩, .slice none 0 0], .int .i64 0]) (by simp [results, Tryz.results46, go_sem, *]) rfl ⟨.mk 0 0 ⟨#[]⟩ [], ⟨0, 0, ⟨#[]⟩, none, 0, 0⟩, 0, rfl, Tr.leaf _ _ _ _ _ (by decide), (by first | exact ((Keeps.refl w []).alloc _).drewN _ | exact keeps_set4 (((Keeps.refl w []).alloc _).drewN _) (Nat.le_refl _) _ _ _ _), fun _ => rfl, fun x hx => by first | (rw [HN.out] at hx; cases hx) | cases hx⟩
      · obtain rfl : q = s.size := by omega
        clear hgo x1
        go_upto_region 8 with fail
        by_cases hq1 : s.size = 1
        · have f1 : ((s.size : Int) == 1) = true := by simp; omega
          have HN : R = none := by
            rw [HE.out, numR, HDS.out, if_neg]
            · rfl
            rw [hq1]
            exact digits_ne _
          have HD := Lib.hid (TakeDone.none0 (l := s.data.toList) HK0.out.drew)
          rw [← HN] at HD
          unfold TakeDone at HD
          clear HN
          refine wp_region_tx (fun _ => True) [(0, true), (1, true), (2, true), (3, true), (4, true), (5, true), (6, true), (7, true), (8, true), (9, false)] (by kernel_rfl) (by kernel_rfl) trivial (fun hHeld => ?_)
          (repeat (first | (refine wpTx_take (v := ?_) rfl (by assumption) ?_ (by rfl) ?_; rotate_left; (focus (intro w' hSw; (try dsimp only at hSw); go_simp; (try with_reducible rfl); done)); simp only [Act.put, List.setIfInBounds_toArray, List.set_cons_zero, List.set_cons_succ]) | (refine wpTx_skip rfl (by assumption) (by rfl) ?_; simp only [Act.put, List.setIfInBounds_toArray, List.set_cons_zero, List.set_cons_succ])))
          refine wpTx_last rfl (fun K hK => ?_)
          go_simp
          refine hK.out _ _ (NoPanic.normal ?_); clear hK K; (try simp only [Act.put, List.setIfInBounds_toArray, List.set_cons_zero, List.set_cons_succ])
          go_wp2_with fail
          exact bodyPost_ret (v := .tuple #[.agg #[.int .i64 0, .int .i64 0, .string ⟨#[]⟩, .slice none 0 0], .int .i64 0]) (by simp [results, Tryz.results46, go_sem, *]) rfl HD.out
        · have f1 : ((s.size : Int) == 1) = false := by simp; omega
          have g1 : (1 : Int) ≤ (s.size : Int) := by omega
          have g2 : (s.size : Int) ≤ (s.size : Int) := by omega
          have hpc : s.extract 1 s.size = stB (r.take (s.size - 1)) := by rw [piece_is, ← HR.out, ← List.drop_one, List.drop_take]
          have HPC := Lib.hid hpc
          have HNum := Lib.hid (fun w' => num_any (valT (r.take (s.size - 1))) w' (by omega))
          refine wp_region_tx (fun _ => True) [(0, true), (1, true), (2, true), (3, true), (5, true), (6, true), (7, true), (4, false), (8, false), (9, false)] (by kernel_rfl) (by kernel_rfl) trivial (fun hHeld => ?_)
          (repeat (first | (refine wpTx_take (v := ?_) rfl (by assumption) ?_ (by rfl) ?_; rotate_left; (focus (intro w' hSw; (try dsimp only at hSw); go_simp; (try with_reducible rfl); done)); simp only [Act.put, List.setIfInBounds_toArray, List.set_cons_zero, List.set_cons_succ]) | (refine wpTx_skip rfl (by assumption) (by rfl) ?_; simp only [Act.put, List.setIfInBounds_toArray, List.set_cons_zero, List.set_cons_succ])))
          refine wpTx_go rfl (fun K hK => ?_)
          go_simp
          refine (HNum.out _).mono ?_
          rintro e w5 ⟨rfl, m5, rfl⟩
          refine hK.out _ _ ?_ ?_
          · trivial
          by_cases he : Lib.decDigits (valT (r.take (s.size - 1))) = r.take (s.size - 1)
          · have hb : ((digits (valT (r.take (s.size - 1)))).toList == (stB (r.take (s.size - 1))).toList) = true := by
              show ((stB (Lib.decDigits (valT (r.take (s.size - 1))))).toList == _) = true
              rw [he]; simp
            have HS : R = some (.mk 0 (valT (r.take (s.size - 1)) : Nat) ⟨#[]⟩ [], r.drop (s.size - 1)) := by
              rw [HE.out, numR, HDS.out, if_pos he]
              show some (_, r.drop (r.take (s.size - 1)).length) = _
              rw [List.length_take, Nat.min_eq_left (by omega)]
            have hdr : r.drop (s.size - 1) = s.data.toList.drop s.size := by
              rw [HH.out, show s.size = (s.size - 1) + 1 by omega, List.drop_succ_cons]
              rfl
            have HTI : Hid (TakeIs s.data.toList (.mk 0 (valT (r.take (s.size - 1)) : Nat) ⟨#[]⟩ []) s.size R) := by
              refine ⟨fun h => by rw [HS] at h; (cases h), fun x hx => ?_⟩
              rw [HS] at hx
              cases hx
              refine ⟨rfl, by omega, ?_, hdr⟩
              show s.size + (r.drop (s.size - 1)).length = _
              rw [List.length_drop]
              have : s.data.toList.length = s.size := rfl
              omega
            clear HS hdr he
            generalize valT (r.take (s.size - 1)) = vq at *
            (clear hHeld; intro hHeld; clear hK K; (try simp only [Act.put, List.setIfInBounds_toArray, List.set_cons_zero, List.set_cons_succ]))
            refine wpTx_go rfl (fun K hK => ?_)
            go_simp
            refine hK.out _ _ ?_ ?_
            · trivial
            (clear hHeld; intro hHeld; clear hK K)
            refine wpTx_last rfl (fun K hK => ?_)
            go_simp
            refine hK.out _ _ (NoPanic.normal ?_); clear hK K; (try simp only [Act.put, List.setIfInBounds_toArray, List.set_cons_zero, List.set_cons_succ])
            go_wp2_with fail
            exact bodyPost_ret (v := .tuple #[.agg #[.int .i64 0, .int .i64 (vq : Nat), .string ⟨#[]⟩, .slice none 0 0], .int .i64 (s.size : Nat)]) (by simp [results, Tryz.results46, go_sem, *]) rfl ⟨.mk 0 (vq : Nat) ⟨#[]⟩ [], ⟨0, (vq : Nat), ⟨#[]⟩, none, 0, 0⟩, s.size, rfl, Tr.leaf _ _ _ _ _ (by decide), (by first | exact ((Keeps.refl w []).alloc _).drewN _ | exact keeps_set4 (((Keeps.refl w []).alloc _).drewN _) (Nat.le_refl _) _ _ _ _), HTI.out⟩
          · have hb : ((digits (valT (r.take (s.size - 1)))).toList == (stB (r.take (s.size - 1))).toList) = false := by
              cases hh : ((digits (valT (r.take (s.size - 1)))).toList == (stB (r.take (s.size - 1))).toList) with
              | false => rfl
              | true =>
                have h9 := bytes_eq.1 hh
                rw [stB_list] at h9
                have h8 : (digits (valT (r.take (s.size - 1)))).data.toList = Lib.decDigits (valT (r.take (s.size - 1))) := by
                  show (stB _).data.toList = _
                  rw [stB_list]
                exact absurd (h8.symm.trans h9) he
            have HN : R = none := by
              rw [HE.out, numR, HDS.out, if_neg he]
              rfl
            have HN := Lib.hid HN
            clear he
            (clear hHeld; intro hHeld; clear hK K; (try simp only [Act.put, List.setIfInBounds_toArray, List.set_cons_zero, List.set_cons_succ]))
            refine wpTx_go rfl (fun K hK => ?_)
            go_simp
            refine hK.out _ _ ?_ ?_
            · trivial
            (clear hHeld; intro hHeld; clear hK K)
            refine wpTx_last rfl (fun K hK => ?_)
            go_simp
            refine hK.out _ _ (NoPanic.normal ?_); clear hK K; (try simp only [Act.put, List.setIfInBounds_toArray, List.set_cons_zero, List.set_cons_succ])
            go_wp2_with fail
            exact bodyPost_ret (v := .tuple #[.agg #[.int .i64 0, .int .i64 0, .string ⟨#[]⟩, .slice none 0 0], .int .i64 0]) (by simp [results, Tryz.results46, go_sem, *]) rfl ⟨.mk 0 0 ⟨#[]⟩ [], ⟨0, 0, ⟨#[]⟩, none, 0, 0⟩, 0, rfl, Tr.leaf _ _ _ _ _ (by decide), (by first | exact ((Keeps.refl w []).alloc _).drewN _ | exact keeps_set4 (((Keeps.refl w []).alloc _).drewN _) (Nat.le_refl _) _ _ _ _), fun _ => rfl, fun x hx => by first | (rw [HN.out] at hx; cases hx) | cases hx⟩
end Go.Proofs.YtnonfmaehfmigaaGreatDoor
