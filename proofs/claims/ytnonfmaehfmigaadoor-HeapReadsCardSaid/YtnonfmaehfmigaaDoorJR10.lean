/- The program's reader: all terms. -/
import Derived.Test.YtnonfmaehfmigaaDoorJR09
namespace Go.Proofs.YtnonfmaehfmigaaDoor
open Go.RowKit

theorem pTerm_len {num : Num} (hn : NumOk num) (f : Nat) (l : Txt) (x : Tm × Txt) (h : pTerm num f l = some x) : x.2.length ≤ l.length := by
  have := pTerm_snd hn f l x.1 x.2 h
  rw [this, List.length_append]
  omega
def moreR (p : Txt → Option (Tm × Txt)) (l : Txt) : Option (List Tm × Txt) := (p l).bind fun x => (pMore p (x.2.length + 1) x.2).bind fun y => some (x.1 :: y.1, y.2)
def strR (nm : Txt) (r : Option (List Tm × Txt)) : Option (Tm × Txt) := r.bind fun y => if y.2.head? = some 41 then some (.mk 2 0 (stB nm) y.1, y.2.tail) else none
theorem pTerm_str {num : Num} {f : Nat} {l : Txt} (h1 : l.head? ≠ some 88) (h2 : l.head? ≠ some 91) (h3 : l.takeWhile isAl ≠ []) (h4 : (l.dropWhile isAl).head? = some 40) : pTerm num (f + 1) l = strR (l.takeWhile isAl) (moreR (pTerm num f) (l.dropWhile isAl).tail) := by
  rw [pTerm, if_neg h1, if_neg h2, if_neg h3, if_pos h4, strR, moreR]
  cases pTerm num f (l.dropWhile isAl).tail with
  | none => rfl
  | some x =>
    simp only [Option.bind_some]
    cases pMore (pTerm num f) (x.2.length + 1) x.2 with
    | none => rfl
    | some y => rfl
/-- How far the loop over parts has come. -/
structure MoreSt (p : Txt → Option (Tm × Txt)) (R2 : Option (List Tm × Txt)) (N : Nat) (args : List Tm) (j : Nat) (o : Option Txt) : Prop where
  few : j ≤ 10000
  on : ∀ s, o = some s → j + s.length ≤ 10000 ∧ s.length ≤ N ∧ ∃ n, s.length < n ∧ (pMore p n s).map (fun y => (args ++ y.1, y.2)) = R2
  bad : o = none → R2 = none
theorem MoreSt.start {p : Txt → Option (Tm × Txt)} {N : Nat} {l : Txt} {t : Tm} (hl : 1 + l.length ≤ 10000) (hN : l.length ≤ N) (hp : ∀ l x, p l = some x → x.2.length ≤ l.length) (ht : ∀ x, p l = some x → t = x.1) : MoreSt p (moreR p l) N ([] ++ [t]) (0 + 1) ((p l).map (·.2)) := by
  refine ⟨by omega, fun s hs => ?_, fun h => ?_⟩
  · cases hx : p l with
    | none => rw [hx] at hs; cases hs
    | some x =>
      rw [hx] at hs
      simp only [Option.map_some, Option.some.injEq] at hs
      subst hs
      have h1 := hp l x hx
      refine ⟨by omega, by omega, x.2.length + 1, by omega, ?_⟩
      rw [ht x hx, moreR, hx]
      simp only [Option.bind_some]
      cases pMore p (x.2.length + 1) x.2 <;> rfl
  · cases hx : p l with
    | none => rw [moreR, hx]; rfl
    | some x => rw [hx] at h; cases h
theorem MoreSt.step {p : Txt → Option (Tm × Txt)} {R2 : Option (List Tm × Txt)} {N : Nat} {args : List Tm} {j : Nat} {s : Txt} {t : Tm} (h : MoreSt p R2 N args j (some s)) (hc : s.head? = some 44) (hp : ∀ l x, p l = some x → x.2.length ≤ l.length) (ht : ∀ x, p s.tail = some x → t = x.1) : MoreSt p R2 N (args ++ [t]) (j + 1) ((p s.tail).map (·.2)) := by
  obtain ⟨h1, h2, n, h3, h4⟩ := h.on s rfl
  have hs := head_tail hc
  have hlen : s.length = s.tail.length + 1 := by conv => lhs; rw [hs]; rw [List.length_cons]
  cases n with
  | zero => omega
  | succ n =>
    rw [pMore, if_pos hc] at h4
    refine ⟨by omega, fun s' hs' => ?_, fun hn => ?_⟩
    · cases hx : p s.tail with
      | none => rw [hx] at hs'; cases hs'
      | some x =>
        rw [hx] at hs' h4
        simp only [Option.map_some, Option.some.injEq, Option.bind_some] at hs' h4
        subst hs'
        have h5 := hp _ x hx
        refine ⟨by omega, by omega, n, by omega, ?_⟩
        rw [← h4, ht x hx]
        cases pMore p n x.2 with
        | none => rfl
        | some y => simp
    · cases hx : p s.tail with
      | none => rw [hx] at h4; exact h4.symm
      | some x => rw [hx] at hn; cases hn
theorem MoreSt.fin {p : Txt → Option (Tm × Txt)} {R2 : Option (List Tm × Txt)} {N : Nat} {args : List Tm} {j : Nat} {o : Option Txt} (h : MoreSt p R2 N args j o) (hc : ∀ s, o = some s → s.head? ≠ some 44) (nm : Txt) : (strR nm R2).map (·.2) = wantO 41 o ∧ ∀ z, strR nm R2 = some z → Tm.mk 2 0 (stB nm) args = z.1 := by
  cases o with
  | none => rw [h.bad rfl]; exact ⟨rfl, fun z hz => by cases hz⟩
  | some s =>
    obtain ⟨_, _, n, h3, h4⟩ := h.on s rfl
    cases n with
    | zero => omega
    | succ n =>
      rw [pMore, if_neg (hc s rfl)] at h4
      simp only [Option.map_some, List.append_nil] at h4
      rw [← h4]
      unfold strR wantO
      simp only [Option.bind_some]
      refine ⟨by split <;> rfl, fun z hz => ?_⟩
      split at hz
      · cases hz; rfl
      · cases hz
/-- What is left to be read. -/
def rdMu (rb : Nat) (w : World) : Nat := match w.cell? ⟨rb, 1, none⟩, w.cell? ⟨rb, 0, none⟩ with
  | some (.bool false), some (.string s) => s.size + 1
  | _, _ => 0
end Go.Proofs.YtnonfmaehfmigaaDoor

/- The document's take. -/
namespace Go.Proofs.YtnonfmaehfmigaaDoor
open Go.RowKit

theorem Keeps.ofDrewN' (w : World) (k : Nat) : Keeps w (w.drewN k) [] := ⟨rfl, rfl, rfl, Nat.le_refl _, fun _ _ _ => rfl⟩
/-- What take tells of a text. -/
structure TakeIs (l : Txt) (t : Tm) (n : Nat) (r : Option (Tm × Txt)) : Prop where
  no : r = none → n = 0
  yes : ∀ x, r = some x → t = x.1 ∧ 0 < n ∧ n + x.2.length = l.length ∧ x.2 = l.drop n
def TakeDone (w : World) (l : Txt) (r : Option (Tm × Txt)) (e : Ending) (w' : World) : Prop :=
  ∃ t v, ∃ n : Nat, e = .returned (.tuple #[tvV v, .int .i64 n]) ∧ Tr w' (fun b => w.heap.size ≤ b) t v ∧ Keeps w w' [] ∧ TakeIs l t n r
theorem TakeDone.hand {w wr : World} {l : Txt} {g n : Nat} {r : Option (Tm × Txt)} {t : Tm} {v : TV} (ht : Tr wr (fun b => w.heap.size ≤ b ∧ b ≠ g) t v) (k : Keeps w wr []) (h : TakeIs l t n r) (hg : w.heap.size ≤ g) (v0 v1 v2 v3 : Value) :
    TakeDone w l r (.returned (.tuple #[tvV v, .int .i64 n])) ((((wr.setCell ⟨g, 0, none⟩ v0).setCell ⟨g, 1, none⟩ v1).setCell ⟨g, 2, none⟩ v2).setCell ⟨g, 3, none⟩ v3) :=
  ⟨t, v, n, rfl, (ht.keepL (keeps_self4 wr g v0 v1 v2 v3) (fun b hb h => h.2 (by simpa using hb))).mono fun b hb => hb.1, keeps_set4 k hg _ _ _ _, h⟩
/-- None: nothing is written behind the block's making. -/
theorem TakeDone.none0 {w wr : World} {l : Txt} (k : Keeps w wr []) : TakeDone w l none (.returned (.tuple #[.agg #[.int .i64 0, .int .i64 0, .string ⟨#[]⟩, .slice none 0 0], .int .i64 0])) wr :=
  ⟨.mk 0 0 ⟨#[]⟩ [], ⟨0, 0, ⟨#[]⟩, none, 0, 0⟩, 0, rfl, Tr.leaf _ _ _ _ _ (by decide), k, fun _ => rfl, fun x hx => by cases hx⟩
theorem TakeDone.none4 {w wr : World} {l : Txt} (k : Keeps w wr []) {g : Nat} (hg : w.heap.size ≤ g) (v0 v1 v2 v3 : Value) :
    TakeDone w l none (.returned (.tuple #[.agg #[.int .i64 0, .int .i64 0, .string ⟨#[]⟩, .slice none 0 0], .int .i64 0])) ((((wr.setCell ⟨g, 0, none⟩ v0).setCell ⟨g, 1, none⟩ v1).setCell ⟨g, 2, none⟩ v2).setCell ⟨g, 3, none⟩ v3) := .none0 (keeps_set4 k hg _ _ _ _)

set_option maxRecDepth 100000 in
set_option maxHeartbeats 800000 in
theorem take_nil (s : ByteArray) (w : World) (h0 : s.size = 0) : Calls Tryd.prog 57 #[.string s] w (TakeDone w s.data.toList none) := by
  have d0 : s.toList.isEmpty = true := by rw [empty_size]; simpa using h0
  have HB0 : Hid (Blk (w.alloc (.cells #[.int .i64 0, .int .i64 0, .string ⟨#[]⟩, .slice none 0 0] 24)) w.heap.size 24 #[.int .i64 0, .int .i64 0, .string ⟨#[]⟩, .slice none 0 0]) := Blk.new _ _ _
  have HD : Hid (TakeDone w s.data.toList none (.returned (.tuple #[.agg #[.int .i64 0, .int .i64 0, .string ⟨#[]⟩, .slice none 0 0], .int .i64 0])) (w.alloc (.cells #[.int .i64 0, .int .i64 0, .string ⟨#[]⟩, .slice none 0 0] 24))) := TakeDone.none0 ((Keeps.refl w []).alloc _)
  unfold TakeDone at HD ⊢
  go_enter Tryd.func57, Tryd.ntmps57
  go_wp2_with fail
  exact bodyPost_ret (v := .tuple #[.agg #[.int .i64 0, .int .i64 0, .string ⟨#[]⟩, .slice none 0 0], .int .i64 0]) (by simp [results, Tryd.results57, go_sem, *]) rfl HD.out

theorem head_at {s : ByteArray} (h : 0 < s.size) : s.data.toList.head? = some s[0] := by rw [List.head?_eq_getElem?]; exact dat_at s 0 h
theorem pos_of {s : ByteArray} {c : UInt8} (h : s.data.toList.head? = some c) : 0 < s.size := by
  have e : s.data.toList.length = s.size := rfl
  cases hl : s.data.toList with
  | nil => rw [hl] at h; cases h
  | cons a b => rw [hl] at e; simp at e; omega
theorem dig_val {c : UInt8} (h : isDig c = true) : 48 ≤ c.toNat ∧ c.toNat ≤ 57 := by simpa [isDig] using h
theorem valT_le (l : Txt) (h : ∀ c ∈ l, isDig c = true) : valT l < 10 ^ l.length := by
  have go : ∀ (l : Txt) (a : Nat), (∀ c ∈ l, isDig c = true) → l.foldl (fun n c => 10 * n + (c.toNat - 48)) a < (a + 1) * 10 ^ l.length := by
    intro l
    induction l with
    | nil => intro a _; simp
    | cons c l ih =>
      intro a h
      have h2 := dig_val (h c (by simp))
      have h1 := ih (10 * a + (c.toNat - 48)) (fun x hx => h x (by simp [hx]))
      rw [List.foldl_cons, List.length_cons, Nat.pow_succ]
      refine Nat.lt_of_lt_of_le h1 ?_
      rw [Nat.mul_comm (10 ^ l.length) 10, ← Nat.mul_assoc]
      exact Nat.mul_le_mul_right _ (by omega)
  have := go l 0 h
  rw [valT]
  simpa using this
/-- Where the digits end. -/
theorem dig_stop {r : Txt} {i : Nat} (h1 : ∀ c ∈ r.take i, isDig c = true) (hi : i ≤ r.length) (h4 : i ≤ 4) (h2 : i = 4 ∨ ∀ c, r[i]? = some c → isDig c = false) : (r.takeWhile isDig).take 4 = r.take i := by
  have key : ∀ (r : Txt) (i : Nat), (∀ c ∈ r.take i, isDig c = true) → i ≤ r.length → r.take i <+: r.takeWhile isDig := by
    intro r
    induction r with
    | nil => intro i _ _; simp
    | cons c r ih =>
      intro i h hi
      cases i with
      | zero => simp
      | succ i =>
        have hc := h c (by simp)
        rw [List.take_succ_cons, List.takeWhile_cons, if_pos hc]
        exact (List.cons_prefix_cons).2 ⟨rfl, ih i (fun d hd => h d (by simp [hd])) (by simpa using hi)⟩
  have hp := key r i h1 hi
  rcases h2 with rfl | h2
  · have e := List.prefix_iff_eq_take.1 hp
    rw [List.length_take, Nat.min_eq_left hi] at e
    exact e.symm
  · have ht := take_stop (p := isDig) (a := r.take i) (b := r.drop i) h1 (fun c hc => h2 c (by rw [List.head?_drop] at hc; exact hc))
    rw [List.take_append_drop] at ht
    rw [ht.1, List.take_of_length_le (by rw [List.length_take]; omega)]
set_option maxRecDepth 100000 in
set_option maxHeartbeats 6400000 in
theorem take_var (s : ByteArray) (w : World) (h : s.data.toList.head? = some 88) (hf : s.size ≤ 10000) : Calls Tryd.prog 57 #[.string s] w (TakeDone w s.data.toList ((numR s.data.toList.tail).bind fun x => some (.mk 0 x.1 ⟨#[]⟩ [], x.2))) := by
  have h3 := pos_of h
  have hsl : s.data.toList.length = s.size := rfl
  have d0 : s.toList.isEmpty = false := by rw [empty_size]; exact decide_eq_false (by omega)
  have e0 : s[0] = 88 := by have := head_at h3; rw [h] at this; injection this with this; exact this.symm
  have d1 : ((s[0].toNat : Int) == 88) = true := by rw [e0]; rfl
  have HB0 : Hid (Blk (w.alloc (.cells #[.int .i64 0, .int .i64 0, .string ⟨#[]⟩, .slice none 0 0] 24)) w.heap.size 24 #[.int .i64 0, .int .i64 0, .string ⟨#[]⟩, .slice none 0 0]) := Blk.new _ _ _
  have HK0 : Hid (Keeps w (w.alloc (.cells #[.int .i64 0, .int .i64 0, .string ⟨#[]⟩, .slice none 0 0] 24)) []) := (Keeps.refl w []).alloc _
  have HH := Lib.hid (head_tail h)
  have hb := HB0.out
  have zc0 := hb.cell 0
  have zf0 := hb.frozen 0
  have zc1 := hb.cell 1
  have zf1 := hb.frozen 1
  have zc2 := hb.cell 2
  have zf2 := hb.frozen 2
  have zc3 := hb.cell 3
  have zf3 := hb.frozen 3
  clear hb e0 h
  have htl : s.data.toList.tail.length = s.size - 1 := by rw [List.length_tail]; rfl
  generalize hr : s.data.toList.tail = r at *
  have HR := Lib.hid hr
  have hat : ∀ k (hk : k < s.size), 1 ≤ k → r[k - 1]? = some s[k] := fun k hk h1 => by
    rw [← hr, List.getElem?_tail, show k - 1 + 1 = k by omega]
    exact dat_at s k hk
  have HAT := Lib.hid hat
  clear hr hat
  obtain ⟨R, hRe⟩ : ∃ R, ((numR r).bind fun x => some ((.mk 0 x.1 ⟨#[]⟩ [] : Tm), x.2)) = R := ⟨_, rfl⟩
  have HE : Hid (R = (numR r).bind fun x => some ((.mk 0 x.1 ⟨#[]⟩ [] : Tm), x.2)) := hRe.symm
  rw [hRe]
  clear hRe
  unfold TakeDone
  go_enter Tryd.func57, Tryd.ntmps57
  go_wp2_with fail
  go_loop [4, 5] (fun n k => ∃ q : Nat, 1 ≤ q ∧ q ≤ 5 ∧ q ≤ s.size ∧ k = .int .i64 q ∧ n = .int .i64 (valT (r.take (q - 1)) : Nat) ∧ Hid (∀ c ∈ r.take (q - 1), isDig c = true)) (fun _ k => s.size - (intOf k).toNat)
  case atStart => exact ⟨1, by omega, by omega, by omega, rfl, rfl, fun y hy => by simp at hy⟩
  case round =>
    obtain ⟨q, h1, h5, hqs, rfl, rfl, HA⟩ := hrel
    have hvb : valT (r.take (q - 1)) < 10 ^ 4 := by
      refine Nat.lt_of_lt_of_le (valT_le _ HA.out) (Nat.pow_le_pow_right (by omega) ?_)
      rw [List.length_take]; omega
    clear d0 d1
    by_cases hgo : ∃ hlt : q < s.size, q < 5 ∧ isDig s[q] = true
    · obtain ⟨hlt, hq5, hd⟩ := hgo
      have hdv := dig_val hd
      have e1 : decide ((q : Int) < (s.size : Int)) = true := by simp; omega
      have e2 : decide ((q : Int) < 5) = true := by simp; omega
      have e3 : decide ((48 : Int) ≤ (s[q].toNat : Int)) = true := by simp; omega
      have e4 : decide ((s[q].toNat : Int) ≤ 57) = true := by simp; omega
      have hx := HAT.out q hlt h1
      have htk : r.take q = r.take (q - 1) ++ [s[q]] := by
        have h9 := List.take_add_one (l := r) (i := q - 1)
        rw [hx, show q - 1 + 1 = q by omega] at h9
        exact h9
      have HA2 : Hid (∀ c ∈ r.take q, isDig c = true) := by
        intro c hc
        rw [htk] at hc
        rcases List.mem_append.1 hc with hc | hc
        · exact HA.out c hc
        · simp at hc; rw [hc]; exact hd
      have HV2 : Hid (valT (r.take q) = 10 * valT (r.take (q - 1)) + (s[q].toNat - 48)) := by show _ = _; rw [htk, valT_snoc]
      clear hx htk hd
      generalize valT (r.take (q - 1)) = vq at *
      go_wp2_with fail
      go_round
      case rel => exact ⟨q + 1, by omega, by omega, by omega, by go_num, by rw [show q + 1 - 1 = q by omega, HV2.out]; go_num, by rw [show q + 1 - 1 = q by omega]; exact HA2⟩
      case measure => simp [intOf]; omega
    · have hds : (r.takeWhile isDig).take 4 = r.take (q - 1) := dig_stop HA.out (by omega) (by omega) (by
        by_cases h6 : q = 5
        · left; omega
        · right
          intro c hc
          by_cases hlt : q < s.size
          · rw [HAT.out q hlt h1] at hc
            cases hc
            cases hd : isDig s[q] with
            | false => rfl
            | true => exact absurd ⟨hlt, by omega, hd⟩ hgo
          · have := (List.getElem?_eq_some_iff.1 hc).1
            omega)
      have HDS := Lib.hid hds
      clear hds
      by_cases x1 : q < s.size
      · by_cases x2 : q < 5
        · by_cases x3 : 48 ≤ s[q].toNat
          · have x4 : ¬ s[q].toNat ≤ 57 := fun h => hgo ⟨x1, x2, by simp [isDig, x3, h]⟩
            have e1 : decide ((q : Int) < (s.size : Int)) = true := by simp; omega
            have e2 : decide ((q : Int) < 5) = true := by simp; omega
            have e3 : decide ((48 : Int) ≤ (s[q].toNat : Int)) = true := by simp; omega
            have e4 : decide ((s[q].toNat : Int) ≤ 57) = false := by simp; omega
            clear hgo x2 x3 x4
            go_upto_region 8 with fail
            by_cases hq1 : q = 1
            · have f1 : ((q : Int) == 1) = true := by simp; omega
              have HN : R = none := by
                rw [HE.out, numR, HDS.out, if_neg]
                · rfl
                rw [hq1]
                exact digits_ne _
              have HD := Lib.hid (TakeDone.none0 (l := s.data.toList) HK0.out.drew)
              rw [← HN] at HD
              unfold TakeDone at HD
              clear HN
              refine wp_region_tx (fun _ => True) [(0, true), (1, true), (2, true), (3, true), (4, true), (5, true), (6, true), (7, true), (8, true), (9, false)] (by kernel_rfl) (by kernel_rfl) trivial (fun hHeld => ?_)
              (repeat (first | (refine wpTx_take (v := ?_) rfl (by assumption) ?_ (by rfl) ?_; rotate_left; (focus (intro w' hSw; (try dsimp only at hSw); go_simp; (try with_reducible rfl); done)); simp only [Act.put, List.setIfInBounds_toArray, List.set_cons_zero, List.set_cons_succ]) | (refine wpTx_skip rfl (by assumption) (by rfl) ?_; simp only [Act.put, List.setIfInBounds_toArray, List.set_cons_zero, List.set_cons_succ])))
              refine wpTx_last rfl (fun K hK => ?_)
              go_simp
              refine hK.out _ _ (NoPanic.normal ?_); clear hK K; (try simp only [Act.put, List.setIfInBounds_toArray, List.set_cons_zero, List.set_cons_succ])
              go_wp2_with fail
              exact bodyPost_ret (v := .tuple #[.agg #[.int .i64 0, .int .i64 0, .string ⟨#[]⟩, .slice none 0 0], .int .i64 0]) (by simp [results, Tryd.results57, go_sem, *]) rfl HD.out
            · have f1 : ((q : Int) == 1) = false := by simp; omega
              have g1 : (1 : Int) ≤ (q : Int) := by omega
              have g2 : (q : Int) ≤ (s.size : Int) := by omega
              have hpc : s.extract 1 q = stB (r.take (q - 1)) := by rw [piece_is, ← HR.out, ← List.drop_one, List.drop_take]
              have HPC := Lib.hid hpc
              have HNum := Lib.hid (fun w' => num_any (valT (r.take (q - 1))) w' (by omega))
              refine wp_region_tx (fun _ => True) [(0, true), (1, true), (2, true), (3, true), (5, true), (6, true), (7, true), (4, false), (8, false), (9, false)] (by kernel_rfl) (by kernel_rfl) trivial (fun hHeld => ?_)
              (repeat (first | (refine wpTx_take (v := ?_) rfl (by assumption) ?_ (by rfl) ?_; rotate_left; (focus (intro w' hSw; (try dsimp only at hSw); go_simp; (try with_reducible rfl); done)); simp only [Act.put, List.setIfInBounds_toArray, List.set_cons_zero, List.set_cons_succ]) | (refine wpTx_skip rfl (by assumption) (by rfl) ?_; simp only [Act.put, List.setIfInBounds_toArray, List.set_cons_zero, List.set_cons_succ])))
              refine wpTx_go rfl (fun K hK => ?_)
              go_simp
              refine (HNum.out _).mono ?_
              rintro e w5 ⟨rfl, m5, rfl⟩
              refine hK.out _ _ ?_ ?_
              · trivial
              by_cases he : Lib.decDigits (valT (r.take (q - 1))) = r.take (q - 1)
              · have hb : ((digits (valT (r.take (q - 1)))).toList == (stB (r.take (q - 1))).toList) = true := by
                  show ((stB (Lib.decDigits (valT (r.take (q - 1))))).toList == _) = true
                  rw [he]; simp
                have HS : R = some (.mk 0 (valT (r.take (q - 1)) : Nat) ⟨#[]⟩ [], r.drop (q - 1)) := by
                  rw [HE.out, numR, HDS.out, if_pos he]
                  show some (_, r.drop (r.take (q - 1)).length) = _
                  rw [List.length_take, Nat.min_eq_left (by omega)]
                have hdr : r.drop (q - 1) = s.data.toList.drop q := by
                  rw [HH.out, show q = (q - 1) + 1 by omega, List.drop_succ_cons]
                  rfl
                have HTI : Hid (TakeIs s.data.toList (.mk 0 (valT (r.take (q - 1)) : Nat) ⟨#[]⟩ []) q R) := by
                  refine ⟨fun h => by rw [HS] at h; (cases h), fun x hx => ?_⟩
                  rw [HS] at hx
                  cases hx
                  refine ⟨rfl, by omega, ?_, hdr⟩
                  show q + (r.drop (q - 1)).length = _
                  rw [List.length_drop]
                  have : s.data.toList.length = s.size := rfl
                  omega
                clear HS hdr he
                generalize valT (r.take (q - 1)) = vq at *
                (clear hHeld; intro hHeld; clear hK K; (try simp only [Act.put, List.setIfInBounds_toArray, List.set_cons_zero, List.set_cons_succ]))
                refine wpTx_go rfl (fun K hK => ?_)
                go_simp
                refine hK.out _ _ ?_ ?_
                · trivial
                (clear hHeld; intro hHeld; clear hK K)
                refine wpTx_last rfl (fun K hK => ?_)
                go_simp
                refine hK.out _ _ (NoPanic.normal ?_); clear hK K; (try simp only [Act.put, List.setIfInBounds_toArray, List.set_cons_zero, List.set_cons_succ])
                go_wp2_with fail
                exact bodyPost_ret (v := .tuple #[.agg #[.int .i64 0, .int .i64 (vq : Nat), .string ⟨#[]⟩, .slice none 0 0], .int .i64 (q : Nat)]) (by simp [results, Tryd.results57, go_sem, *]) rfl ⟨.mk 0 (vq : Nat) ⟨#[]⟩ [], ⟨0, (vq : Nat), ⟨#[]⟩, none, 0, 0⟩, q, rfl, Tr.leaf _ _ _ _ _ (by decide), (by first | exact ((Keeps.refl w []).alloc _).drewN _ | exact keeps_set4 (((Keeps.refl w []).alloc _).drewN _) (Nat.le_refl _) _ _ _ _), HTI.out⟩
              · have hb : ((digits (valT (r.take (q - 1)))).toList == (stB (r.take (q - 1))).toList) = false := by
                  cases hh : ((digits (valT (r.take (q - 1)))).toList == (stB (r.take (q - 1))).toList) with
                  | false => rfl
                  | true =>
                    have h9 := bytes_eq.1 hh
                    rw [stB_list] at h9
                    have h8 : (digits (valT (r.take (q - 1)))).data.toList = Lib.decDigits (valT (r.take (q - 1))) := by
                      show (stB _).data.toList = _
                      rw [stB_list]
                    exact absurd (h8.symm.trans h9) he
                have HN : R = none := by
                  rw [HE.out, numR, HDS.out, if_neg he]
                  rfl
                have HN := Lib.hid HN
                clear he
                (clear hHeld; intro hHeld; clear hK K; (try simp only [Act.put, List.setIfInBounds_toArray, List.set_cons_zero, List.set_cons_succ]))
                refine wpTx_go rfl (fun K hK => ?_)
                go_simp
                refine hK.out _ _ ?_ ?_
                · trivial
                (clear hHeld; intro hHeld; clear hK K)
                refine wpTx_last rfl (fun K hK => ?_)
                go_simp
                refine hK.out _ _ (NoPanic.normal ?_); clear hK K; (try simp only [Act.put, List.setIfInBounds_toArray, List.set_cons_zero, List.set_cons_succ])
                go_wp2_with fail
                exact bodyPost_ret (v := .tuple #[.agg #[.int .i64 0, .int .i64 0, .string ⟨#[]⟩, .slice none 0 0], .int .i64 0]) (by simp [results, Tryd.results57, go_sem, *]) rfl ⟨.mk 0 0 ⟨#[]⟩ [], ⟨0, 0, ⟨#[]⟩, none, 0, 0⟩, 0, rfl, Tr.leaf _ _ _ _ _ (by decide), (by first | exact ((Keeps.refl w []).alloc _).drewN _ | exact keeps_set4 (((Keeps.refl w []).alloc _).drewN _) (Nat.le_refl _) _ _ _ _), fun _ => rfl, fun x hx => by first | (rw [HN.out] at hx; cases hx) | cases hx⟩
          · have e1 : decide ((q : Int) < (s.size : Int)) = true := by simp; omega
            have e2 : decide ((q : Int) < 5) = true := by simp; omega
            have e3 : decide ((48 : Int) ≤ (s[q].toNat : Int)) = false := by simp; omega
            clear hgo x2 x3
            go_upto_region 8 with fail
            by_cases hq1 : q = 1
            · have f1 : ((q : Int) == 1) = true := by simp; omega
              have HN : R = none := by
                rw [HE.out, numR, HDS.out, if_neg]
                · rfl
                rw [hq1]
                exact digits_ne _
              have HD := Lib.hid (TakeDone.none0 (l := s.data.toList) HK0.out.drew)
              rw [← HN] at HD
              unfold TakeDone at HD
              clear HN
              refine wp_region_tx (fun _ => True) [(0, true), (1, true), (2, true), (3, true), (4, true), (5, true), (6, true), (7, true), (8, true), (9, false)] (by kernel_rfl) (by kernel_rfl) trivial (fun hHeld => ?_)
              (repeat (first | (refine wpTx_take (v := ?_) rfl (by assumption) ?_ (by rfl) ?_; rotate_left; (focus (intro w' hSw; (try dsimp only at hSw); go_simp; (try with_reducible rfl); done)); simp only [Act.put, List.setIfInBounds_toArray, List.set_cons_zero, List.set_cons_succ]) | (refine wpTx_skip rfl (by assumption) (by rfl) ?_; simp only [Act.put, List.setIfInBounds_toArray, List.set_cons_zero, List.set_cons_succ])))
              refine wpTx_last rfl (fun K hK => ?_)
              go_simp
              refine hK.out _ _ (NoPanic.normal ?_); clear hK K; (try simp only [Act.put, List.setIfInBounds_toArray, List.set_cons_zero, List.set_cons_succ])
              go_wp2_with fail
              exact bodyPost_ret (v := .tuple #[.agg #[.int .i64 0, .int .i64 0, .string ⟨#[]⟩, .slice none 0 0], .int .i64 0]) (by simp [results, Tryd.results57, go_sem, *]) rfl HD.out
            · have f1 : ((q : Int) == 1) = false := by simp; omega
              have g1 : (1 : Int) ≤ (q : Int) := by omega
              have g2 : (q : Int) ≤ (s.size : Int) := by omega
              have hpc : s.extract 1 q = stB (r.take (q - 1)) := by rw [piece_is, ← HR.out, ← List.drop_one, List.drop_take]
              have HPC := Lib.hid hpc
              have HNum := Lib.hid (fun w' => num_any (valT (r.take (q - 1))) w' (by omega))
              refine wp_region_tx (fun _ => True) [(0, true), (1, true), (2, true), (3, true), (5, true), (6, true), (7, true), (4, false), (8, false), (9, false)] (by kernel_rfl) (by kernel_rfl) trivial (fun hHeld => ?_)
              (repeat (first | (refine wpTx_take (v := ?_) rfl (by assumption) ?_ (by rfl) ?_; rotate_left; (focus (intro w' hSw; (try dsimp only at hSw); go_simp; (try with_reducible rfl); done)); simp only [Act.put, List.setIfInBounds_toArray, List.set_cons_zero, List.set_cons_succ]) | (refine wpTx_skip rfl (by assumption) (by rfl) ?_; simp only [Act.put, List.setIfInBounds_toArray, List.set_cons_zero, List.set_cons_succ])))
              refine wpTx_go rfl (fun K hK => ?_)
              go_simp
              refine (HNum.out _).mono ?_
              rintro e w5 ⟨rfl, m5, rfl⟩
              refine hK.out _ _ ?_ ?_
              · trivial
              by_cases he : Lib.decDigits (valT (r.take (q - 1))) = r.take (q - 1)
              · have hb : ((digits (valT (r.take (q - 1)))).toList == (stB (r.take (q - 1))).toList) = true := by
                  show ((stB (Lib.decDigits (valT (r.take (q - 1))))).toList == _) = true
                  rw [he]; simp
                have HS : R = some (.mk 0 (valT (r.take (q - 1)) : Nat) ⟨#[]⟩ [], r.drop (q - 1)) := by
                  rw [HE.out, numR, HDS.out, if_pos he]
                  show some (_, r.drop (r.take (q - 1)).length) = _
                  rw [List.length_take, Nat.min_eq_left (by omega)]
                have hdr : r.drop (q - 1) = s.data.toList.drop q := by
                  rw [HH.out, show q = (q - 1) + 1 by omega, List.drop_succ_cons]
                  rfl
                have HTI : Hid (TakeIs s.data.toList (.mk 0 (valT (r.take (q - 1)) : Nat) ⟨#[]⟩ []) q R) := by
                  refine ⟨fun h => by rw [HS] at h; (cases h), fun x hx => ?_⟩
                  rw [HS] at hx
                  cases hx
                  refine ⟨rfl, by omega, ?_, hdr⟩
                  show q + (r.drop (q - 1)).length = _
                  rw [List.length_drop]
                  have : s.data.toList.length = s.size := rfl
                  omega
                clear HS hdr he
                generalize valT (r.take (q - 1)) = vq at *
                (clear hHeld; intro hHeld; clear hK K; (try simp only [Act.put, List.setIfInBounds_toArray, List.set_cons_zero, List.set_cons_succ]))
                refine wpTx_go rfl (fun K hK => ?_)
                go_simp
                refine hK.out _ _ ?_ ?_
                · trivial
                (clear hHeld; intro hHeld; clear hK K)
                refine wpTx_last rfl (fun K hK => ?_)
                go_simp
                refine hK.out _ _ (NoPanic.normal ?_); clear hK K; (try simp only [Act.put, List.setIfInBounds_toArray, List.set_cons_zero, List.set_cons_succ])
                go_wp2_with fail
                exact bodyPost_ret (v := .tuple #[.agg #[.int .i64 0, .int .i64 (vq : Nat), .string ⟨#[]⟩, .slice none 0 0], .int .i64 (q : Nat)]) (by simp [results, Tryd.results57, go_sem, *]) rfl ⟨.mk 0 (vq : Nat) ⟨#[]⟩ [], ⟨0, (vq : Nat), ⟨#[]⟩, none, 0, 0⟩, q, rfl, Tr.leaf _ _ _ _ _ (by decide), (by first | exact ((Keeps.refl w []).alloc _).drewN _ | exact keeps_set4 (((Keeps.refl w []).alloc _).drewN _) (Nat.le_refl _) _ _ _ _), HTI.out⟩
              · have hb : ((digits (valT (r.take (q - 1)))).toList == (stB (r.take (q - 1))).toList) = false := by
                  cases hh : ((digits (valT (r.take (q - 1)))).toList == (stB (r.take (q - 1))).toList) with
                  | false => rfl
                  | true =>
                    have h9 := bytes_eq.1 hh
                    rw [stB_list] at h9
                    have h8 : (digits (valT (r.take (q - 1)))).data.toList = Lib.decDigits (valT (r.take (q - 1))) := by
                      show (stB _).data.toList = _
                      rw [stB_list]
                    exact absurd (h8.symm.trans h9) he
                have HN : R = none := by
                  rw [HE.out, numR, HDS.out, if_neg he]
                  rfl
                have HN := Lib.hid HN
                clear he
                (clear hHeld; intro hHeld; clear hK K; (try simp only [Act.put, List.setIfInBounds_toArray, List.set_cons_zero, List.set_cons_succ]))
                refine wpTx_go rfl (fun K hK => ?_)
                go_simp
                refine hK.out _ _ ?_ ?_
                · trivial
                (clear hHeld; intro hHeld; clear hK K)
                refine wpTx_last rfl (fun K hK => ?_)
                go_simp
                refine hK.out _ _ (NoPanic.normal ?_); clear hK K; (try simp only [Act.put, List.setIfInBounds_toArray, List.set_cons_zero, List.set_cons_succ])
                go_wp2_with fail
                exact bodyPost_ret (v := .tuple #[.agg #[.int .i64 0, .int .i64 0, .string ⟨#[]⟩, .slice none 0 0], .int .i64 0]) (by simp [results, Tryd.results57, go_sem, *]) rfl ⟨.mk 0 0 ⟨#[]⟩ [], ⟨0, 0, ⟨#[]⟩, none, 0, 0⟩, 0, rfl, Tr.leaf _ _ _ _ _ (by decide), (by first | exact ((Keeps.refl w []).alloc _).drewN _ | exact keeps_set4 (((Keeps.refl w []).alloc _).drewN _) (Nat.le_refl _) _ _ _ _), fun _ => rfl, fun x hx => by first | (rw [HN.out] at hx; cases hx) | cases hx⟩
        · have e1 : decide ((q : Int) < (s.size : Int)) = true := by simp; omega
          have e2 : decide ((q : Int) < 5) = false := by simp; omega
          clear hgo x2
          go_upto_region 8 with fail
          by_cases hq1 : q = 1
          · have f1 : ((q : Int) == 1) = true := by simp; omega
            have HN : R = none := by
              rw [HE.out, numR, HDS.out, if_neg]
              · rfl
              rw [hq1]
              exact digits_ne _
            have HD := Lib.hid (TakeDone.none0 (l := s.data.toList) HK0.out.drew)
            rw [← HN] at HD
            unfold TakeDone at HD
            clear HN
            refine wp_region_tx (fun _ => True) [(0, true), (1, true), (2, true), (3, true), (4, true), (5, true), (6, true), (7, true), (8, true), (9, false)] (by kernel_rfl) (by kernel_rfl) trivial (fun hHeld => ?_)
            (repeat (first | (refine wpTx_take (v := ?_) rfl (by assumption) ?_ (by rfl) ?_; rotate_left; (focus (intro w' hSw; (try dsimp only at hSw); go_simp; (try with_reducible rfl); done)); simp only [Act.put, List.setIfInBounds_toArray, List.set_cons_zero, List.set_cons_succ]) | (refine wpTx_skip rfl (by assumption) (by rfl) ?_; simp only [Act.put, List.setIfInBounds_toArray, List.set_cons_zero, List.set_cons_succ])))
            refine wpTx_last rfl (fun K hK => ?_)
            go_simp
            refine hK.out _ _ (NoPanic.normal ?_); clear hK K; (try simp only [Act.put, List.setIfInBounds_toArray, List.set_cons_zero, List.set_cons_succ])
            go_wp2_with fail
            exact bodyPost_ret (v := .tuple #[.agg #[.int .i64 0, .int .i64 0, .string ⟨#[]⟩, .slice none 0 0], .int .i64 0]) (by simp [results, Tryd.results57, go_sem, *]) rfl HD.out
          · have f1 : ((q : Int) == 1) = false := by simp; omega
            have g1 : (1 : Int) ≤ (q : Int) := by omega
            have g2 : (q : Int) ≤ (s.size : Int) := by omega
            have hpc : s.extract 1 q = stB (r.take (q - 1)) := by rw [piece_is, ← HR.out, ← List.drop_one, List.drop_take]
            have HPC := Lib.hid hpc
            have HNum := Lib.hid (fun w' => num_any (valT (r.take (q - 1))) w' (by omega))
            refine wp_region_tx (fun _ => True) [(0, true), (1, true), (2, true), (3, true), (5, true), (6, true), (7, true), (4, false), (8, false), (9, false)] (by kernel_rfl) (by kernel_rfl) trivial (fun hHeld => ?_)
            (repeat (first | (refine wpTx_take (v := ?_) rfl (by assumption) ?_ (by rfl) ?_; rotate_left; (focus (intro w' hSw; (try dsimp only at hSw); go_simp; (try with_reducible rfl); done)); simp only [Act.put, List.setIfInBounds_toArray, List.set_cons_zero, List.set_cons_succ]) | (refine wpTx_skip rfl (by assumption) (by rfl) ?_; simp only [Act.put, List.setIfInBounds_toArray, List.set_cons_zero, List.set_cons_succ])))
            refine wpTx_go rfl (fun K hK => ?_)
            go_simp
            refine (HNum.out _).mono ?_
            rintro e w5 ⟨rfl, m5, rfl⟩
            refine hK.out _ _ ?_ ?_
            · trivial
            by_cases he : Lib.decDigits (valT (r.take (q - 1))) = r.take (q - 1)
            · have hb : ((digits (valT (r.take (q - 1)))).toList == (stB (r.take (q - 1))).toList) = true := by
                show ((stB (Lib.decDigits (valT (r.take (q - 1))))).toList == _) = true
                rw [he]; simp
              have HS : R = some (.mk 0 (valT (r.take (q - 1)) : Nat) ⟨#[]⟩ [], r.drop (q - 1)) := by
                rw [HE.out, numR, HDS.out, if_pos he]
                show some (_, r.drop (r.take (q - 1)).length) = _
                rw [List.length_take, Nat.min_eq_left (by omega)]
              have hdr : r.drop (q - 1) = s.data.toList.drop q := by
                rw [HH.out, show q = (q - 1) + 1 by omega, List.drop_succ_cons]
                rfl
              have HTI : Hid (TakeIs s.data.toList (.mk 0 (valT (r.take (q - 1)) : Nat) ⟨#[]⟩ []) q R) := by
                refine ⟨fun h => by rw [HS] at h; (cases h), fun x hx => ?_⟩
                rw [HS] at hx
                cases hx
                refine ⟨rfl, by omega, ?_, hdr⟩
                show q + (r.drop (q - 1)).length = _
                rw [List.length_drop]
                have : s.data.toList.length = s.size := rfl
                omega
              clear HS hdr he
              generalize valT (r.take (q - 1)) = vq at *
              (clear hHeld; intro hHeld; clear hK K; (try simp only [Act.put, List.setIfInBounds_toArray, List.set_cons_zero, List.set_cons_succ]))
              refine wpTx_go rfl (fun K hK => ?_)
              go_simp
              refine hK.out _ _ ?_ ?_
              · trivial
              (clear hHeld; intro hHeld; clear hK K)
              refine wpTx_last rfl (fun K hK => ?_)
              go_simp
              refine hK.out _ _ (NoPanic.normal ?_); clear hK K; (try simp only [Act.put, List.setIfInBounds_toArray, List.set_cons_zero, List.set_cons_succ])
              go_wp2_with fail
              exact bodyPost_ret (v := .tuple #[.agg #[.int .i64 0, .int .i64 (vq : Nat), .string ⟨#[]⟩, .slice none 0 0], .int .i64 (q : Nat)]) (by simp [results, Tryd.results57, go_sem, *]) rfl ⟨.mk 0 (vq : Nat) ⟨#[]⟩ [], ⟨0, (vq : Nat), ⟨#[]⟩, none, 0, 0⟩, q, rfl, Tr.leaf _ _ _ _ _ (by decide), (by first | exact ((Keeps.refl w []).alloc _).drewN _ | exact keeps_set4 (((Keeps.refl w []).alloc _).drewN _) (Nat.le_refl _) _ _ _ _), HTI.out⟩
            · have hb : ((digits (valT (r.take (q - 1)))).toList == (stB (r.take (q - 1))).toList) = false := by
                cases hh : ((digits (valT (r.take (q - 1)))).toList == (stB (r.take (q - 1))).toList) with
                | false => rfl
                | true =>
                  have h9 := bytes_eq.1 hh
                  rw [stB_list] at h9
                  have h8 : (digits (valT (r.take (q - 1)))).data.toList = Lib.decDigits (valT (r.take (q - 1))) := by
                    show (stB _).data.toList = _
                    rw [stB_list]
                  exact absurd (h8.symm.trans h9) he
              have HN : R = none := by
                rw [HE.out, numR, HDS.out, if_neg he]
                rfl
              have HN := Lib.hid HN
              clear he
              (clear hHeld; intro hHeld; clear hK K; (try simp only [Act.put, List.setIfInBounds_toArray, List.set_cons_zero, List.set_cons_succ]))
              refine wpTx_go rfl (fun K hK => ?_)
              go_simp
              refine hK.out _ _ ?_ ?_
              · trivial
              (clear hHeld; intro hHeld; clear hK K)
              refine wpTx_last rfl (fun K hK => ?_)
              go_simp
              refine hK.out _ _ (NoPanic.normal ?_); clear hK K; (try simp only [Act.put, List.setIfInBounds_toArray, List.set_cons_zero, List.set_cons_succ])
              go_wp2_with fail
              exact bodyPost_ret (v := .tuple #[.agg #[.int .i64 0, .int .i64 0, .string ⟨#[]⟩, .slice none 0 0], .int .i64 0]) (by simp [results, Tryd.results57, go_sem, *]) rfl ⟨.mk 0 0 ⟨#[]⟩ [], ⟨0, 0, ⟨#[]⟩, none, 0, 0⟩, 0, rfl, Tr.leaf _ _ _ _ _ (by decide), (by first | exact ((Keeps.refl w []).alloc _).drewN _ | exact keeps_set4 (((Keeps.refl w []).alloc _).drewN _) (Nat.le_refl _) _ _ _ _), fun _ => rfl, fun x hx => by first | (rw [HN.out] at hx; cases hx) | cases hx⟩
      · obtain rfl : q = s.size := by omega
        clear hgo x1
        go_upto_region 8 with fail
        by_cases hq1 : s.size = 1
        · have f1 : ((s.size : Int) == 1) = true := by simp; omega
          have HN : R = none := by
            rw [HE.out, numR, HDS.out, if_neg]
            · rfl
            rw [hq1]
            exact digits_ne _
          have HD := Lib.hid (TakeDone.none0 (l := s.data.toList) HK0.out.drew)
          rw [← HN] at HD
          unfold TakeDone at HD
          clear HN
          refine wp_region_tx (fun _ => True) [(0, true), (1, true), (2, true), (3, true), (4, true), (5, true), (6, true), (7, true), (8, true), (9, false)] (by kernel_rfl) (by kernel_rfl) trivial (fun hHeld => ?_)
          (repeat (first | (refine wpTx_take (v := ?_) rfl (by assumption) ?_ (by rfl) ?_; rotate_left; (focus (intro w' hSw; (try dsimp only at hSw); go_simp; (try with_reducible rfl); done)); simp only [Act.put, List.setIfInBounds_toArray, List.set_cons_zero, List.set_cons_succ]) | (refine wpTx_skip rfl (by assumption) (by rfl) ?_; simp only [Act.put, List.setIfInBounds_toArray, List.set_cons_zero, List.set_cons_succ])))
          refine wpTx_last rfl (fun K hK => ?_)
          go_simp
          refine hK.out _ _ (NoPanic.normal ?_); clear hK K; (try simp only [Act.put, List.setIfInBounds_toArray, List.set_cons_zero, List.set_cons_succ])
          go_wp2_with fail
          exact bodyPost_ret (v := .tuple #[.agg #[.int .i64 0, .int .i64 0, .string ⟨#[]⟩, .slice none 0 0], .int .i64 0]) (by simp [results, Tryd.results57, go_sem, *]) rfl HD.out
        · have f1 : ((s.size : Int) == 1) = false := by simp; omega
          have g1 : (1 : Int) ≤ (s.size : Int) := by omega
          have g2 : (s.size : Int) ≤ (s.size : Int) := by omega
          have hpc : s.extract 1 s.size = stB (r.take (s.size - 1)) := by rw [piece_is, ← HR.out, ← List.drop_one, List.drop_take]
          have HPC := Lib.hid hpc
          have HNum := Lib.hid (fun w' => num_any (valT (r.take (s.size - 1))) w' (by omega))
          refine wp_region_tx (fun _ => True) [(0, true), (1, true), (2, true), (3, true), (5, true), (6, true), (7, true), (4, false), (8, false), (9, false)] (by kernel_rfl) (by kernel_rfl) trivial (fun hHeld => ?_)
          (repeat (first | (refine wpTx_take (v := ?_) rfl (by assumption) ?_ (by rfl) ?_; rotate_left; (focus (intro w' hSw; (try dsimp only at hSw); go_simp; (try with_reducible rfl); done)); simp only [Act.put, List.setIfInBounds_toArray, List.set_cons_zero, List.set_cons_succ]) | (refine wpTx_skip rfl (by assumption) (by rfl) ?_; simp only [Act.put, List.setIfInBounds_toArray, List.set_cons_zero, List.set_cons_succ])))
          refine wpTx_go rfl (fun K hK => ?_)
          go_simp
          refine (HNum.out _).mono ?_
          rintro e w5 ⟨rfl, m5, rfl⟩
          refine hK.out _ _ ?_ ?_
          · trivial
          by_cases he : Lib.decDigits (valT (r.take (s.size - 1))) = r.take (s.size - 1)
          · have hb : ((digits (valT (r.take (s.size - 1)))).toList == (stB (r.take (s.size - 1))).toList) = true := by
              show ((stB (Lib.decDigits (valT (r.take (s.size - 1))))).toList == _) = true
              rw [he]; simp
            have HS : R = some (.mk 0 (valT (r.take (s.size - 1)) : Nat) ⟨#[]⟩ [], r.drop (s.size - 1)) := by
              rw [HE.out, numR, HDS.out, if_pos he]
              show some (_, r.drop (r.take (s.size - 1)).length) = _
              rw [List.length_take, Nat.min_eq_left (by omega)]
            have hdr : r.drop (s.size - 1) = s.data.toList.drop s.size := by
              rw [HH.out, show s.size = (s.size - 1) + 1 by omega, List.drop_succ_cons]
              rfl
            have HTI : Hid (TakeIs s.data.toList (.mk 0 (valT (r.take (s.size - 1)) : Nat) ⟨#[]⟩ []) s.size R) := by
              refine ⟨fun h => by rw [HS] at h; (cases h), fun x hx => ?_⟩
              rw [HS] at hx
              cases hx
              refine ⟨rfl, by omega, ?_, hdr⟩
              show s.size + (r.drop (s.size - 1)).length = _
              rw [List.length_drop]
              have : s.data.toList.length = s.size := rfl
              omega
            clear HS hdr he
            generalize valT (r.take (s.size - 1)) = vq at *
            (clear hHeld; intro hHeld; clear hK K; (try simp only [Act.put, List.setIfInBounds_toArray, List.set_cons_zero, List.set_cons_succ]))
            refine wpTx_go rfl (fun K hK => ?_)
            go_simp
            refine hK.out _ _ ?_ ?_
            · trivial
            (clear hHeld; intro hHeld; clear hK K)
            refine wpTx_last rfl (fun K hK => ?_)
            go_simp
            refine hK.out _ _ (NoPanic.normal ?_); clear hK K; (try simp only [Act.put, List.setIfInBounds_toArray, List.set_cons_zero, List.set_cons_succ])
            go_wp2_with fail
            exact bodyPost_ret (v := .tuple #[.agg #[.int .i64 0, .int .i64 (vq : Nat), .string ⟨#[]⟩, .slice none 0 0], .int .i64 (s.size : Nat)]) (by simp [results, Tryd.results57, go_sem, *]) rfl ⟨.mk 0 (vq : Nat) ⟨#[]⟩ [], ⟨0, (vq : Nat), ⟨#[]⟩, none, 0, 0⟩, s.size, rfl, Tr.leaf _ _ _ _ _ (by decide), (by first | exact ((Keeps.refl w []).alloc _).drewN _ | exact keeps_set4 (((Keeps.refl w []).alloc _).drewN _) (Nat.le_refl _) _ _ _ _), HTI.out⟩
          · have hb : ((digits (valT (r.take (s.size - 1)))).toList == (stB (r.take (s.size - 1))).toList) = false := by
              cases hh : ((digits (valT (r.take (s.size - 1)))).toList == (stB (r.take (s.size - 1))).toList) with
              | false => rfl
              | true =>
                have h9 := bytes_eq.1 hh
                rw [stB_list] at h9
                have h8 : (digits (valT (r.take (s.size - 1)))).data.toList = Lib.decDigits (valT (r.take (s.size - 1))) := by
                  show (stB _).data.toList = _
                  rw [stB_list]
                exact absurd (h8.symm.trans h9) he
            have HN : R = none := by
              rw [HE.out, numR, HDS.out, if_neg he]
              rfl
            have HN := Lib.hid HN
            clear he
            (clear hHeld; intro hHeld; clear hK K; (try simp only [Act.put, List.setIfInBounds_toArray, List.set_cons_zero, List.set_cons_succ]))
            refine wpTx_go rfl (fun K hK => ?_)
            go_simp
            refine hK.out _ _ ?_ ?_
            · trivial
            (clear hHeld; intro hHeld; clear hK K)
            refine wpTx_last rfl (fun K hK => ?_)
            go_simp
            refine hK.out _ _ (NoPanic.normal ?_); clear hK K; (try simp only [Act.put, List.setIfInBounds_toArray, List.set_cons_zero, List.set_cons_succ])
            go_wp2_with fail
            exact bodyPost_ret (v := .tuple #[.agg #[.int .i64 0, .int .i64 0, .string ⟨#[]⟩, .slice none 0 0], .int .i64 0]) (by simp [results, Tryd.results57, go_sem, *]) rfl ⟨.mk 0 0 ⟨#[]⟩ [], ⟨0, 0, ⟨#[]⟩, none, 0, 0⟩, 0, rfl, Tr.leaf _ _ _ _ _ (by decide), (by first | exact ((Keeps.refl w []).alloc _).drewN _ | exact keeps_set4 (((Keeps.refl w []).alloc _).drewN _) (Nat.le_refl _) _ _ _ _), fun _ => rfl, fun x hx => by first | (rw [HN.out] at hx; cases hx) | cases hx⟩
end Go.Proofs.YtnonfmaehfmigaaDoor

/- The document's take: lists, names. -/
namespace Go.Proofs.YtnonfmaehfmigaaDoor
open Go.RowKit

theorem TakeIs.none {l : Txt} {t : Tm} : TakeIs l t 0 none := ⟨fun _ => rfl, fun x hx => by cases hx⟩
/-- The byte behind n. -/
theorem at_rest {s : ByteArray} {k : Nat} (hk : k < s.size) : (s.data.toList.drop k).head? = some s[k] := by rw [List.head?_drop]; exact dat_at s k hk
theorem at_end {s : ByteArray} {k : Nat} (hk : s.size ≤ k) : (s.data.toList.drop k).head? = none := by
  rw [List.drop_eq_nil_of_le (by have : s.data.toList.length = s.size := rfl; omega)]
  rfl
theorem ext_list (s : ByteArray) (k : Nat) : (s.extract k s.size).data.toList = s.data.toList.drop k := by
  rw [piece_is, stB_list, List.take_of_length_le (show s.data.toList.length ≤ s.size from Nat.le_refl _)]
theorem ext_size (s : ByteArray) (k : Nat) : (s.extract k s.size).size = s.size - k := by
  have h : (s.extract k s.size).data.toList.length = (s.data.toList.drop k).length := by rw [ext_list]
  rw [List.length_drop] at h
  exact h

set_option maxRecDepth 100000 in
set_option maxHeartbeats 3200000 in
theorem take_list (s : ByteArray) (w : World) (p : Txt → Option (Tm × Txt)) (h : s.data.toList.head? = some 91) (hf : s.size ≤ 10000)
    (ih : ∀ (x : ByteArray) (w : World), x.size < s.size → Calls Tryd.prog 57 #[.string x] w (TakeDone w x.data.toList (p x.data.toList))) :
    Calls Tryd.prog 57 #[.string s] w (TakeDone w s.data.toList (listR p s.data.toList.tail)) := by
  have h3 := pos_of h
  have hsl : s.data.toList.length = s.size := rfl
  have d0 : s.toList.isEmpty = false := by rw [empty_size]; exact decide_eq_false (by omega)
  have e0 : s[0] = 91 := by have := head_at h3; rw [h] at this; injection this with this; exact this.symm
  have d1 : ((s[0].toNat : Int) == 88) = false := by rw [e0]; rfl
  have d2 : ((s[0].toNat : Int) == 91) = true := by rw [e0]; rfl
  have g1 : (1 : Int) ≤ (s.size : Int) := by omega
  have HB0 : Hid (Blk (w.alloc (.cells #[.int .i64 0, .int .i64 0, .string ⟨#[]⟩, .slice none 0 0] 24)) w.heap.size 24 #[.int .i64 0, .int .i64 0, .string ⟨#[]⟩, .slice none 0 0]) := Blk.new _ _ _
  have HK0 : Hid (Keeps w (w.alloc (.cells #[.int .i64 0, .int .i64 0, .string ⟨#[]⟩, .slice none 0 0] 24)) []) := (Keeps.refl w []).alloc _
  have ht1 : s.data.toList.tail = s.data.toList.drop 1 := List.drop_one.symm
  have hi1 := ih (s.extract 1 s.size) (w.alloc (.cells #[.int .i64 0, .int .i64 0, .string ⟨#[]⟩, .slice none 0 0] 24)) (by rw [ext_size]; omega)
  rw [ext_list] at hi1
  have HI1 := Lib.hid hi1
  have HI := Lib.hid ih
  rw [ht1]
  obtain ⟨R, hRe⟩ : ∃ R, listR p (s.data.toList.drop 1) = R := ⟨_, rfl⟩
  have HE : Hid (R = listR p (s.data.toList.drop 1)) := hRe.symm
  rw [hRe]
  have hb := HB0.out
  have zc0 := hb.cell 0
  have zf0 := hb.frozen 0
  have zc1 := hb.cell 1
  have zf1 := hb.frozen 1
  have zc2 := hb.cell 2
  have zf2 := hb.frozen 2
  have zc3 := hb.cell 3
  have zf3 := hb.frozen 3
  clear hb e0 h ih hi1 ht1 hRe
  unfold TakeDone at HI1 ⊢
  go_enter Tryd.func57, Tryd.ntmps57
  go_wp2_with fail
  refine HI1.out.mono ?_
  rintro e w1 ⟨t1, v1, n1, rfl, ht1, k1, i1⟩
  have HT1 := Lib.hid (ht1.keep ((Keeps.refl w1 []).alloc (.cells #[.int .i64 v1.k, .int .i64 v1.n, .string v1.s, .slice v1.A v1.len v1.c] 24)))
  have HG1 : Hid (Blk (w1.alloc (.cells #[.int .i64 v1.k, .int .i64 v1.n, .string v1.s, .slice v1.A v1.len v1.c] 24)) w1.heap.size 24 #[.int .i64 v1.k, .int .i64 v1.n, .string v1.s, .slice v1.A v1.len v1.c]) := Blk.new _ _ _
  have HB1 := Lib.hid ((HB0.out.keep k1 (by simp)).alloc (.cells #[.int .i64 v1.k, .int .i64 v1.n, .string v1.s, .slice v1.A v1.len v1.c] 24))
  have HK1 := Lib.hid ((HK0.out.trans k1).alloc (.cells #[.int .i64 v1.k, .int .i64 v1.n, .string v1.s, .slice v1.A v1.len v1.c] 24))
  have HIS1 := Lib.hid i1
  have HZ1 : Hid (w.heap.size < w1.heap.size) := by have := k1.size; simp at this; show _ < _; omega
  clear zc0 zc1 zc2 zc3 zf0 zf1 zf2 zf3
  have hb := HB1.out
  have zc0 := hb.cell 0
  have zf0 := hb.frozen 0
  have zc1 := hb.cell 1
  have zf1 := hb.frozen 1
  have zc2 := hb.cell 2
  have zf2 := hb.frozen 2
  have zc3 := hb.cell 3
  have zf3 := hb.frozen 3
  unfold tvV
  clear ht1 k1 hb HB0 HK0 HI1
  cases hp1 : p (s.data.toList.drop 1) with
  | none =>
    obtain rfl : n1 = 0 := by have := i1.no hp1; exact this
    have hR : R = none := by rw [HE.out, listR, hp1]; rfl
    have HD := Lib.hid (TakeDone.none4 (l := s.data.toList) HK1.out (Nat.le_refl _) (.int .i64 0) (.int .i64 0) (.string ⟨#[]⟩) (.slice none 0 0))
    rw [← hR] at HD
    unfold TakeDone at HD
    clear hR i1 hp1
    go_wp2_with fail
    exact bodyPost_ret (v := .tuple #[.agg #[.int .i64 0, .int .i64 0, .string ⟨#[]⟩, .slice none 0 0], .int .i64 0]) (by simp [results, Tryd.results57, go_sem, *]) rfl HD.out
  | some x =>
    obtain ⟨hx1, hn1, hl1, hd1⟩ := i1.yes x hp1
    rw [List.drop_drop] at hd1
    have hlen1 : n1 + x.2.length = s.size - 1 := by rw [hl1, List.length_drop]; rfl
    have m0 : ((n1 : Int) == 0) = false := by simp; omega
    by_cases hge : s.size ≤ 1 + n1
    · have m1 : decide ((s.size : Int) ≤ 1 + (n1 : Int)) = true := by simp; omega
      have hR : R = none := by rw [HE.out, listR, hp1, Option.bind_some, if_neg]; rw [hd1, at_end (by omega)]; simp
      have HD := Lib.hid (TakeDone.none4 (l := s.data.toList) HK1.out (Nat.le_refl _) (.int .i64 0) (.int .i64 0) (.string ⟨#[]⟩) (.slice none 0 0))
      rw [← hR] at HD
      unfold TakeDone at HD
      clear hR i1 hp1 hx1 hd1 hl1
      go_wp2_with fail
      exact bodyPost_ret (v := .tuple #[.agg #[.int .i64 0, .int .i64 0, .string ⟨#[]⟩, .slice none 0 0], .int .i64 0]) (by simp [results, Tryd.results57, go_sem, *]) rfl HD.out
    have hlt1 : 1 + n1 < s.size := by omega
    have m1 : decide ((s.size : Int) ≤ 1 + (n1 : Int)) = false := by simp; omega
    have hat := at_rest hlt1
    rw [← hd1] at hat
    by_cases hc1 : s[1 + n1] = 124
    case neg =>
      have m2 : ((s[1 + n1].toNat : Int) == 124) = false := by
        have : s[1 + n1].toNat ≠ 124 := fun h => hc1 (UInt8.toNat_inj.1 (by simpa using h))
        simp; omega
      have hR : R = none := by rw [HE.out, listR, hp1, Option.bind_some, if_neg]; rw [hat]; simpa using hc1
      have HD := Lib.hid (TakeDone.none4 (l := s.data.toList) HK1.out (Nat.le_refl _) (.int .i64 0) (.int .i64 0) (.string ⟨#[]⟩) (.slice none 0 0))
      rw [← hR] at HD
      unfold TakeDone at HD
      have b1 : (0 : Int) ≤ 1 + (n1 : Int) := by omega
      have b2 : 1 + (n1 : Int) < (s.size : Int) := by omega
      clear hR i1 hp1 hx1 hd1 hl1 hat hc1 hge
      go_wp2_with fail
      exact bodyPost_ret (v := .tuple #[.agg #[.int .i64 0, .int .i64 0, .string ⟨#[]⟩, .slice none 0 0], .int .i64 0]) (by simp [results, Tryd.results57, go_sem, *]) rfl HD.out
    have m2 : ((s[1 + n1].toNat : Int) == 124) = true := by rw [hc1]; rfl
    have hh1 : x.2.head? = some 124 := by rw [hat, hc1]
    have htl : x.2.tail = s.data.toList.drop (2 + n1) := by rw [hd1, List.tail_drop, show 1 + n1 + 1 = 2 + n1 by omega]
    have hi2 := fun w' => HI.out (s.extract (2 + n1) s.size) w' (by rw [ext_size]; omega)
    rw [ext_list, ← htl] at hi2
    have HI2 := Lib.hid hi2
    have hR2 : R = (p x.2.tail).bind fun y => if y.2.head? = some 93 then some (.mk 3 0 ⟨#[]⟩ [x.1, y.1], y.2.tail) else none := by rw [HE.out, listR, hp1, Option.bind_some, if_pos hh1]
    have HR2 := Lib.hid hR2
    have HTL := Lib.hid htl
    have HX1 := Lib.hid hx1
    have b1 : (0 : Int) ≤ 1 + (n1 : Int) := by omega
    have b2 : 1 + (n1 : Int) < (s.size : Int) := by omega
    have b3 : (0 : Int) ≤ 2 + (n1 : Int) := by omega
    have b4 : 2 + (n1 : Int) ≤ (s.size : Int) := by omega
    unfold TakeDone at HI2
    clear hR2 i1 hp1 hx1 hd1 hl1 hat hc1 hge hi2 htl hh1
    go_wp2_with fail
    refine (HI2.out _).mono ?_
    rintro e w2 ⟨t2, v2, n2, rfl, ht2, k2, i2⟩
    have HZ2 : Hid (w1.heap.size < w2.heap.size) := by have := k2.size; simp at this; show _ < _; omega
    have K2 := k2.alloc (.cells #[.int .i64 v2.k, .int .i64 v2.n, .string v2.s, .slice v2.A v2.len v2.c] 24)
    have HB2 := Lib.hid (HB1.out.keep K2 (by simp))
    have HG2 := Lib.hid (HG1.out.keep K2 (by simp))
    have HH2 : Hid (Blk (w2.alloc (.cells #[.int .i64 v2.k, .int .i64 v2.n, .string v2.s, .slice v2.A v2.len v2.c] 24)) w2.heap.size 24 #[.int .i64 v2.k, .int .i64 v2.n, .string v2.s, .slice v2.A v2.len v2.c]) := Blk.new _ _ _
    have HT2 := Lib.hid (HT1.out.keep K2)
    have HU2 := Lib.hid (ht2.keep ((Keeps.refl w2 []).alloc (.cells #[.int .i64 v2.k, .int .i64 v2.n, .string v2.s, .slice v2.A v2.len v2.c] 24)))
    have HK2 := Lib.hid (HK1.out.trans K2)
    have HS2 := Lib.hid i2
    unfold tvV
    clear zc0 zc1 zc2 zc3 zf0 zf1 zf2 zf3
    have hb := HB2.out
    have zc0 := hb.cell 0
    have zf0 := hb.frozen 0
    have zc1 := hb.cell 1
    have zf1 := hb.frozen 1
    have zc2 := hb.cell 2
    have zf2 := hb.frozen 2
    have zc3 := hb.cell 3
    have zf3 := hb.frozen 3
    clear hb ht2 k2 K2 HI2
    cases hp2 : p x.2.tail with
    | none =>
      obtain rfl : n2 = 0 := by have := i2.no hp2; exact this
      have hR : R = none := by rw [HR2.out, hp2]; rfl
      have HD := Lib.hid (TakeDone.none4 (l := s.data.toList) HK2.out (Nat.le_refl _) (.int .i64 0) (.int .i64 0) (.string ⟨#[]⟩) (.slice none 0 0))
      rw [← hR] at HD
      unfold TakeDone at HD
      clear hR i2 hp2
      go_wp2_with fail
      exact bodyPost_ret (v := .tuple #[.agg #[.int .i64 0, .int .i64 0, .string ⟨#[]⟩, .slice none 0 0], .int .i64 0]) (by simp [results, Tryd.results57, go_sem, *]) rfl HD.out
    | some y =>
      obtain ⟨hy1, hn2, hl2, hd2⟩ := i2.yes y hp2
      rw [HTL.out, List.drop_drop] at hd2
      rw [HTL.out, List.length_drop] at hl2
      have hl2' : n2 + y.2.length = s.size - (2 + n1) := hl2
      have p0 : ((n2 : Int) == 0) = false := by simp; omega
      by_cases hge2 : s.size ≤ 2 + n1 + n2
      · have p1 : decide ((s.size : Int) ≤ 2 + (n1 : Int) + (n2 : Int)) = true := by simp; omega
        have hR : R = none := by rw [HR2.out, hp2, Option.bind_some, if_neg]; rw [hd2, at_end (by omega)]; simp
        have HD := Lib.hid (TakeDone.none4 (l := s.data.toList) HK2.out (Nat.le_refl _) (.int .i64 0) (.int .i64 0) (.string ⟨#[]⟩) (.slice none 0 0))
        rw [← hR] at HD
        unfold TakeDone at HD
        clear hR i2 hp2 hy1 hl2 hd2
        go_wp2_with fail
        exact bodyPost_ret (v := .tuple #[.agg #[.int .i64 0, .int .i64 0, .string ⟨#[]⟩, .slice none 0 0], .int .i64 0]) (by simp [results, Tryd.results57, go_sem, *]) rfl HD.out
      have hlt2 : 2 + n1 + n2 < s.size := by omega
      have p1 : decide ((s.size : Int) ≤ 2 + (n1 : Int) + (n2 : Int)) = false := by simp; omega
      have hat2 := at_rest hlt2
      rw [← hd2] at hat2
      have b5 : (0 : Int) ≤ 2 + (n1 : Int) + (n2 : Int) := by omega
      have b6 : 2 + (n1 : Int) + (n2 : Int) < (s.size : Int) := by omega
      by_cases hc2 : s[2 + n1 + n2] = 93
      case neg =>
        have p2 : ((s[2 + n1 + n2].toNat : Int) == 93) = false := by
          have : s[2 + n1 + n2].toNat ≠ 93 := fun h => hc2 (UInt8.toNat_inj.1 (by simpa using h))
          simp; omega
        have hR : R = none := by rw [HR2.out, hp2, Option.bind_some, if_neg]; rw [hat2]; simpa using hc2
        have HD := Lib.hid (TakeDone.none4 (l := s.data.toList) HK2.out (Nat.le_refl _) (.int .i64 0) (.int .i64 0) (.string ⟨#[]⟩) (.slice none 0 0))
        rw [← hR] at HD
        unfold TakeDone at HD
        clear hR i2 hp2 hy1 hl2 hd2 hat2 hc2 hge2
        go_wp2_with fail
        exact bodyPost_ret (v := .tuple #[.agg #[.int .i64 0, .int .i64 0, .string ⟨#[]⟩, .slice none 0 0], .int .i64 0]) (by simp [results, Tryd.results57, go_sem, *]) rfl HD.out
      have p2 : ((s[2 + n1 + n2].toNat : Int) == 93) = true := by rw [hc2]; rfl
      have hR : R = some (.mk 3 0 ⟨#[]⟩ [x.1, y.1], y.2.tail) := by rw [HR2.out, hp2, Option.bind_some, if_pos (by rw [hat2, hc2])]
      have hTI : TakeIs s.data.toList (.mk 3 0 ⟨#[]⟩ [t1, t2]) (3 + n1 + n2) R := by
        refine ⟨fun h => by rw [hR] at h; (cases h), fun z hz => ?_⟩
        rw [hR] at hz
        cases hz
        refine ⟨by rw [HX1.out, hy1], by omega, ?_, ?_⟩
        · rw [List.length_tail]
          show _ = s.size
          omega
        · rw [hd2, List.tail_drop, show 2 + n1 + n2 + 1 = 3 + n1 + n2 by omega]
      have hg := HG2.out
      have hh := HH2.out
      have uc0 := hg.cell 0
      have uf0 := hg.frozen 0
      have uc1 := hg.cell 1
      have uf1 := hg.frozen 1
      have uc2 := hg.cell 2
      have uf2 := hg.frozen 2
      have uc3 := hg.cell 3
      have uf3 := hg.frozen 3
      have yc0 := hh.cell 0
      have yf0 := hh.frozen 0
      have yc1 := hh.cell 1
      have yf1 := hh.frozen 1
      have yc2 := hh.cell 2
      have yf2 := hh.frozen 2
      have yc3 := hh.cell 3
      have yf3 := hh.frozen 3
      have hd := TakeDone.hand (w := w) (g := w.heap.size) (pair_tr (S := fun b => w.heap.size ≤ b ∧ b ≠ w.heap.size) (HT2.out.mono fun b hb => by simp at hb; omega) (HU2.out.mono fun b hb => by have := HZ1.out; have := HZ2.out; simp at hb; omega) (by have := HZ1.out; have := HZ2.out; simp; omega) 24) (HK2.out.alloc _) hTI (Nat.le_refl _) (.int .i64 3) (.int .i64 0) (.string ⟨#[]⟩) (.slice (some ⟨(w2.alloc (.cells #[.int .i64 v2.k, .int .i64 v2.n, .string v2.s, .slice v2.A v2.len v2.c] 24)).heap.size, 0, none⟩) 2 2)
      rw [show ((3 + n1 + n2 : Nat) : Int) = 3 + (n1 : Int) + (n2 : Int) by omega] at hd
      clear zc0 zc1 zc2 zc3 zf0 zf1 zf2 zf3
      have hb := HB2.out.alloc (.cells #[.int .i64 v1.k, .int .i64 v1.n, .string v1.s, .slice v1.A v1.len v1.c, .int .i64 v2.k, .int .i64 v2.n, .string v2.s, .slice v2.A v2.len v2.c] 24)
      have zc0 := hb.cell 0
      have zf0 := hb.frozen 0
      have zc1 := hb.cell 1
      have zf1 := hb.frozen 1
      have zc2 := hb.cell 2
      have zf2 := hb.frozen 2
      have zc3 := hb.cell 3
      have zf3 := hb.frozen 3
      unfold TakeDone at hd
      simp only [World.size_alloc] at hd
      have HD := Lib.hid hd
      clear hR i2 hp2 hy1 hl2 hd2 hat2 hc2 hge2 hTI hd hg hh hb
      go_wp2_with fail
      exact bodyPost_ret (v := .tuple #[.agg #[.int .i64 3, .int .i64 0, .string ⟨#[]⟩, .slice (some ⟨w2.heap.size + 1, 0, none⟩) 2 2], .int .i64 (3 + (n1 : Int) + (n2 : Int))]) (by simp [results, Tryd.results57, go_sem, *]) rfl HD.out
end Go.Proofs.YtnonfmaehfmigaaDoor

/- The document's take: names, and terms with a name. -/
namespace Go.Proofs.YtnonfmaehfmigaaDoor
open Go.RowKit

def nameR (p : Txt → Option (Tm × Txt)) (l : Txt) : Option (Tm × Txt) := if l.takeWhile isAl = [] then none else if (l.dropWhile isAl).head? = some 40 then strR (l.takeWhile isAl) (moreR p (l.dropWhile isAl).tail) else some (.mk 1 0 (stB (l.takeWhile isAl)) [], l.dropWhile isAl)
theorem nameR_none {p : Txt → Option (Tm × Txt)} {l : Txt} (h : l.takeWhile isAl = []) : nameR p l = none := if_pos h
theorem nameR_con {p : Txt → Option (Tm × Txt)} {l : Txt} (h : l.takeWhile isAl ≠ []) (h2 : (l.dropWhile isAl).head? ≠ some 40) : nameR p l = some (.mk 1 0 (stB (l.takeWhile isAl)) [], l.dropWhile isAl) := by rw [nameR, if_neg h, if_neg h2]
theorem nameR_str {p : Txt → Option (Tm × Txt)} {l : Txt} (h : l.takeWhile isAl ≠ []) (h2 : (l.dropWhile isAl).head? = some 40) : nameR p l = strR (l.takeWhile isAl) (moreR p (l.dropWhile isAl).tail) := by rw [nameR, if_neg h, if_pos h2]
theorem nm_len (l : Txt) : (l.takeWhile isAl).length ≤ l.length := (List.takeWhile_sublist _).length_le
/-- What stands behind a name: a byte below '0'; one between '9' and 'a'; one behind 'z'; nothing. -/
def BrHyp_1 (l : Txt) : Prop := ∃ c : UInt8, l[(l.takeWhile isAl).length]? = some c ∧ c.toNat < 48
def BrHyp_2 (l : Txt) : Prop := ∃ c : UInt8, l[(l.takeWhile isAl).length]? = some c ∧ 57 < c.toNat ∧ c.toNat < 97
def BrHyp_3 (l : Txt) : Prop := ∃ c : UInt8, l[(l.takeWhile isAl).length]? = some c ∧ 122 < c.toNat
def BrHyp_4 (l : Txt) : Prop := (l.takeWhile isAl).length = l.length
theorem br_all (l : Txt) : BrHyp_1 l ∨ BrHyp_2 l ∨ BrHyp_3 l ∨ BrHyp_4 l := by
  by_cases h : (l.takeWhile isAl).length = l.length
  · exact .inr (.inr (.inr h))
  · have hlt : (l.takeWhile isAl).length < l.length := by have := nm_len l; omega
    have hx := List.getElem?_eq_getElem hlt
    have hd : (l.dropWhile isAl).head? = some l[(l.takeWhile isAl).length] := by
      have e : l.drop (l.takeWhile isAl).length = l.dropWhile isAl := by
        conv => lhs; rw [← take_drop_while isAl l]; rw [show (l.takeWhile isAl ++ l.dropWhile isAl).takeWhile isAl = l.takeWhile isAl by rw [take_drop_while]]; rw [List.drop_left]
      rw [← e, List.head?_drop, hx]
    have hno : isAl l[(l.takeWhile isAl).length] = false := by
      cases hal : isAl l[(l.takeWhile isAl).length] with
      | false => rfl
      | true =>
        have := List.head?_dropWhile_not isAl l
        rw [hd] at this
        simp [hal] at this
    have hc : l[(l.takeWhile isAl).length].toNat < 48 ∨ (57 < l[(l.takeWhile isAl).length].toNat ∧ l[(l.takeWhile isAl).length].toNat < 97) ∨ 122 < l[(l.takeWhile isAl).length].toNat := by
      simp [isAl, isSm, isDig] at hno
      omega
    rcases hc with hc | hc | hc
    · exact .inl ⟨_, hx, hc⟩
    · exact .inr (.inl ⟨_, hx, hc.1, hc.2⟩)
    · exact .inr (.inr (.inl ⟨_, hx, hc⟩))
end Go.Proofs.YtnonfmaehfmigaaDoor
