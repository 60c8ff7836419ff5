/- The walk of obj.Encode. Printed by gen_enc.py. -/
import Derived.Test.YtdcjiohbnnipdaaEnc
import Derived.Test.YtdcjiohbnnipdaaOpF
namespace Go.Proofs.Ytdcjiohbnnipdaa
open Go.RowKit

set_option maxHeartbeats 400000 in
theorem sizeOf_any (k : Nat) (w : World) : Calls Try.prog 56 #[.int .i64 k] w fun e w' => e = .returned (.int .i64 (szOf k)) ∧ w = w' := by
  by_cases h : k = 8
  · have d : ((k : Int) == 8) = true := by simp; omega
    have HI : Hid (szOf k = 2) := by show _ = _; rw [szOf, if_pos (by omega)]
    clear h
    go_enter Try.func56, Try.ntmps56
    go_wp2_with fail
    go_ret
    exact ⟨by rw [HI.out]; rfl, rfl⟩
  · have d : ((k : Int) == 8) = false := by simp; omega
    have HI : Hid (szOf k = 1) := by show _ = _; rw [szOf, if_neg (by omega)]
    clear h
    go_enter Try.func56, Try.ntmps56
    go_wp2_with fail
    go_ret
    exact ⟨by rw [HI.out]; rfl, rfl⟩

theorem encDone_err {o : LObj} {w w' : World} (h : checkE o ≠ 0) (k : Keeps w w' []) : EncDone o w (.returned (.tuple #[.slice none 0 0, .int .i64 (checkE o)])) w' := ⟨k, by rw [if_neg h]⟩
theorem encDone_ok {o : LObj} {w w' : World} {A : Option Addr} {n c : Nat} (h : checkE o = 0) (hl : (encB o).length = n) (ho : w'.ownsRow w.heap.size 5 1 (.slice A n c) n (u8s (encB o))) (k : Keeps w w' []) : EncDone o w (.returned (.tuple #[.slice A n c, .int .i64 0])) w' := by
  subst hl
  exact ⟨k, by rw [if_pos h]; exact ⟨A, c, rfl, ho⟩⟩
theorem mayOk_nonneg {op : Int} {k : Nat} {n : Int} (h : mayOk op k n = true) : 0 ≤ n := by
  have h0 : 0 ≤ leastOf6 k := by unfold leastOf6; split <;> decide
  simp only [mayOk, Bool.or_eq_true, Bool.and_eq_true, decide_eq_true_eq, beq_iff_eq] at h
  rcases h with h | h
  · exact Int.le_trans h0 h.1
  · omega
theorem insOk_arg {i : LIns} (h : insOk i = true) {k : Nat} (hk : k < (kindsOf i.op).length) : 0 ≤ i.arg k := by
  have h4 := kinds_few i.op
  simp only [insOk, Bool.and_eq_true, List.all_eq_true, List.mem_range] at h
  have h1 := h.2 k (by omega)
  rw [argOk, List.getElem?_eq_getElem hk] at h1
  exact mayOk_nonneg h1
theorem enc_ranges {o : LObj} (h : checkE o = 0) : (∀ s ∈ o.atoms, s.size ≤ 32) ∧ (∀ f ∈ o.funs, f.name.size ≤ 32 ∧ 0 ≤ f.arity ∧ f.arity ≤ 8) ∧ (∀ p ∈ o.preds, p.name.size ≤ 32 ∧ 0 ≤ p.arity ∧ p.arity ≤ 8 ∧ 0 ≤ p.entry ∧ p.entry ≤ 65535) ∧
    ∀ i ∈ o.code, 0 ≤ i.op ∧ i.op ≤ 26 ∧ ∀ k, k < (kindsOf i.op).length → 0 ≤ i.arg k := by
  obtain ⟨h1, h2, h3, h4⟩ := checkE_range h
  simp only [namedB, Bool.and_eq_true, List.all_eq_true] at h2
  obtain ⟨a1, a2, a3⟩ := h2
  refine ⟨fun s hs => nameOk_size (a1 s hs), fun f hf => ?_, fun p hp => ?_, fun i hi => ?_⟩
  · have := a2 f hf
    simp only [funOk, Bool.and_eq_true, decide_eq_true_eq] at this
    exact ⟨nameOk_size this.1, by omega, by omega⟩
  · have := a3 p hp
    simp only [predOk, Bool.and_eq_true, decide_eq_true_eq] at this
    simp only [entriesB, Bool.and_eq_true, List.all_eq_true] at h3
    have he := h3.1 p hp
    simp only [entB, Bool.or_eq_true, Bool.and_eq_true, decide_eq_true_eq, beq_iff_eq] at he
    simp only [bigO, bigB_or, Bool.or_eq_false_iff, decide_eq_false_iff_not] at h1
    exact ⟨nameOk_size this.1, by omega, by omega, by omega, by omega⟩
  · obtain ⟨b1, b2⟩ := h4 i hi
    simp only [opIn, Bool.and_eq_true, decide_eq_true_eq] at b1
    exact ⟨by omega, by omega, fun k hk => insOk_arg b2 hk⟩
theorem head_done (o : LObj) (na nf np nc : Nat) (h1 : o.atoms.length = na) (h2 : o.funs.length = nf) (h3 : o.preds.length = np) (h4 : o.code.length = nc) : [82, 83, 76, 86, 1] ++ ([na, nf, np, nc].take 4).flatMap (be 2) = headB o := by
  subst h1 h2 h3 h4
  simp [headB]
theorem body_done (o : LObj) : ((((headB o ++ o.atoms.flatMap nameB) ++ o.funs.flatMap funB) ++ o.preds.flatMap predB) ++ o.code.flatMap insB) = bodyB o := by simp only [bodyB, List.append_assoc]
theorem flat_all {α : Type} {enc : α → List Int} {l : List α} {n : Nat} (hl : l.length = n) : (l.take n).flatMap enc = l.flatMap enc := by rw [List.take_of_length_le (by omega)]
theorem nats_at (l : List Nat) (k : Nat) (hk : k < l.length) : ∃ v, l[k]? = some v := ⟨l[k], List.getElem?_eq_getElem hk⟩
theorem ins_cell' {w : World} {g : Nat} {t : TypeId} {i : LIns} {v : Int} (h : Blk w g t #[.int .i64 v, .int .i64 i.a0, .int .i64 i.a1, .int .i64 i.a2, .int .i64 i.a3]) (k : Nat) (hk : k < 4) : w.cell? ⟨g, 1 + k, none⟩ = some (.int .i64 (i.arg k)) := by
  refine (h.cell (1 + k)).trans ?_
  match k, hk with
  | 0, _ => rfl
  | 1, _ => rfl
  | 2, _ => rfl
  | 3, _ => rfl
theorem Nums.keepB {K : IntKind} {w w' : World} {B : Nat} {S : List Nat} {b off : Nat} {l : List Int} (h : Nums K w B (some ⟨b, off, none⟩) l) (k : Keeps w w' S) (hb : b ∉ S) (hlt : b < w.heap.size) : Nums K w' B (some ⟨b, off, none⟩) l := by
  intro i hi
  obtain ⟨b', off', x, e, hb', hc, hx⟩ := h i hi
  injection e with e
  injection e with e1 e2
  subst e1 e2
  exact ⟨b, off, x, rfl, hb', (k.cell (p := ⟨b, off + i, none⟩) hlt hb).trans hc, hx⟩
theorem BufSt.lt {w wr : World} {A : Option Addr} {n c : Nat} {l : List Int} (s : BufSt w wr A n c l) : ∀ q, q ∈ ownL (.slice A n c) → q < wr.heap.size := by
  intro q hq
  rcases s.grow with h | ⟨⟨h1, h2, b, rfl, h4, h5, h6⟩, h7⟩
  · unfold ownL at hq
    simp at hq
    exact (h.lt q hq).2
  · simp [ownL, Value.ownBlock] at hq
    omega
theorem newOr_low {w : World} {v v' : Value} {a b : Nat} (h : NewOr w v v') (hv : ∀ q, q ∈ ownL v → q < a ∨ b ≤ q) (hb : b ≤ w.heap.size) : ∀ q, q ∈ ownL v' → q < a ∨ b ≤ q := by
  intro q hq
  rcases h with h | ⟨q', h, hq'⟩
  · refine hv q ?_
    unfold ownL at *
    rw [← h]
    exact hq
  · unfold ownL at hq
    rw [h] at hq
    simp at hq
    omega
theorem four_cells {wr : World} {g : Nat} {t : TypeId} {na nf np nc : Nat} (h : Blk wr g t #[.int .i64 na, .int .i64 nf, .int .i64 np, .int .i64 nc]) {k v : Nat} (hv : [na, nf, np, nc][k]? = some v) : wr.cell? ⟨g, k, none⟩ = some (.int .i64 v) := by
  refine (h.cell k).trans ?_
  match k, hv with
  | 0, hv => simp at hv; subst hv; rfl
  | 1, hv => simp at hv; subst hv; rfl
  | 2, hv => simp at hv; subst hv; rfl
  | 3, hv => simp at hv; subst hv; rfl
  | k + 4, hv => simp at hv

set_option maxRecDepth 100000 in
set_option maxHeartbeats 12800000 in
theorem encode_any (o : LObj) : ObjCalls 16 o (EncDone o) := by
  intro Aa Af Ap Ac na nf np nc ca cf cp cc w h hf la lf lp lc
  have HF := Lib.hid hf
  have H := Lib.hid h
  have ga := hf.atoms
  have gf := hf.funs
  have gp := hf.preds
  have gc := hf.code
  rw [la] at ga
  rw [lf] at gf
  rw [lp] at gp
  rw [lc] at gc
  have La := Lib.hid la
  have Lf := Lib.hid lf
  have Lp := Lib.hid lp
  have Lc := Lib.hid lc
  clear h hf la lf lp lc
  have st : BoxSt w (w.alloc (.cells #[.slice Aa na ca, .slice Af nf cf, .slice Ap np cp, .slice Ac nc cc] 30)) w.heap.size 30 #[.slice Aa na ca, .slice Af nf cf, .slice Ap np cp, .slice Ac nc cc] := ⟨Blk.new _ _ _, (Keeps.refl _ []).alloc _⟩
  have HST := Lib.hid st
  clear st
  have hch := check_any o _ _ _ _ _ _ _ _ ca cf cp cc _ (H.out.keep HST.out.keep) HF.out La.out Lf.out Lp.out Lc.out
  by_cases h0 : checkE o = 0
  case neg =>
    obtain ⟨z, hz⟩ : ∃ z, checkE o = z := ⟨_, rfl⟩
    have HQ : Hid (∀ w', Keeps w w' [] → EncDone o w (.returned (.tuple #[.slice none 0 0, .int .i64 z])) w') := fun w' k => by rw [← hz]; exact encDone_err h0 k
    rw [hz] at h0 hch
    have d0 : (z != 0) = true := by simpa using h0
    have HC := Lib.hid hch
    clear h0 hz hch
    go_enter Try.func16, Try.ntmps16
    go_wp2_with (go_at_call 21; refine HC.out.mono ?_; rintro e w1 ⟨rfl, k1⟩)
    go_ret2
    exact HQ.out _ (HST.out.keep.trans k1)
  have HR := Lib.hid (enc_ranges h0)
  have HQ : Hid (∀ {w' : World} {A : Option Addr} {n c : Nat}, (encB o).length = n → w'.ownsRow w.heap.size 5 1 (.slice A n c) n (u8s (encB o)) → Keeps w w' [] → EncDone o w (.returned (.tuple #[.slice A n c, .int .i64 0])) w') := fun h1 h2 h3 => encDone_ok h0 h1 h2 h3
  rw [h0] at hch
  have HC := Lib.hid hch
  clear h0 hch
  go_enter Try.func16, Try.ntmps16
  go_wp2_with (go_at_call 21; refine HC.out.mono ?_; rintro e w1 ⟨rfl, k1⟩; have S1 := Lib.hid (HST.out.go k1); have kc := fun (C : Array Value) (n c : Nat) => Lib.run_convert_bytes_const (P := Try.prog) w1 22 5 C n c Try.underlying22 Try.underlying5; have S2 := Lib.hid (S1.out.go ((Keeps.refl w1 []).alloc (.cells #[.int .u8 82, .int .u8 83, .int .u8 76, .int .u8 86, .int .u8 1] 5 (5, 6)))); obtain ⟨p0, p1, p2, p3⟩ := S2.out.four; clear k1)
  have hbuf : BufSt w (w1.alloc (.cells #[.int .u8 82, .int .u8 83, .int .u8 76, .int .u8 86, .int .u8 1] 5 (5, 6))) (some ⟨w1.heap.size, 0, none⟩) 5 5 [82, 83, 76, 86, 1] :=
    ⟨.inr ⟨⟨rfl, rfl, w1.heap.size, rfl, S1.out.keep.size, by simp, fun j u hj => cell_lit w1 _ _ (by rw [List.getElem?_toArray]; exact hj)⟩, fun b hb => by injection hb with hb; injection hb with hb; subst hb; exact ⟨_, _, heap_alloc_new _ _⟩⟩, S2.out.keep⟩
  have HB0 := Lib.hid (hbuf.go ((Keeps.refl _ []).alloc (.cells #[.int .i64 na, .int .i64 nf, .int .i64 np, .int .i64 nc] 3)))
  have HH0 := Lib.hid (Blk.newAt (w := w1.alloc (.cells #[.int .u8 82, .int .u8 83, .int .u8 76, .int .u8 86, .int .u8 1] 5 (5, 6))) (n := w1.heap.size + 1) 3 #[.int .i64 na, .int .i64 nf, .int .i64 np, .int .i64 nc] (by simp))
  have HX0 := Lib.hid ((S2.out.blk).alloc (.cells #[.int .i64 na, .int .i64 nf, .int .i64 np, .int .i64 nc] 3))
  have hw1 := S1.out.blk.lt
  clear p0 p1 p2 p3 kc hbuf S1 S2
  generalize w1.heap.size = hb at *
  go_loopw [5, 7, 41] (fun s v i wr => ∃ k : Nat, k ≤ 4 ∧ i = .int .i64 k ∧ ∃ A n c, s = .slice A n c ∧ n = 5 + 2 * k ∧ BufSt w wr A n c ([82, 83, 76, 86, 1] ++ ([na, nf, np, nc].take k).flatMap (be 2)) ∧ Blk wr (hb + 1) 3 #[.int .i64 na, .int .i64 nf, .int .i64 np, .int .i64 nc] ∧ Blk wr w.heap.size 30 #[.slice Aa na ca, .slice Af nf cf, .slice Ap np cp, .slice Ac nc cc]) (fun _ _ i _ => 4 - (intOf i).toNat)
  case atStart => exact ⟨0, Nat.zero_le _, rfl, _, _, _, rfl, rfl, HB0.out, HH0.out, HX0.out⟩
  case round =>
    obtain ⟨k, hk, rfl, A, n, c, rfl, hn, bs, bh, bb⟩ := hrel
    have HBs := Lib.hid bs
    have HBh := Lib.hid bh
    have HBb := Lib.hid bb
    have hn' : n ≤ 13 := by omega
    have HN := Lib.hid hn
    clear bs bh hn HB0 HH0 HX0
    by_cases hlt : k < 4
    · obtain ⟨v, hv⟩ := nats_at [na, nf, np, nc] k hlt
      have q0 := four_cells HBh.out hv
      have HV := Lib.hid hv
      have b0 : (0 : Int) ≤ (k : Int) := Int.natCast_nonneg _
      have b1 : (k : Int) < 4 := by omega
      clear hv bb
      go_wp2_with (go_at_call 53; refine (put_any A n c v 2 _ w.heap.size _ (by omega) (by omega) HBs.out.grow HBs.out.keep.size).mono ?_; rintro e w2 hp; obtain ⟨A2, c2, rfl, bs2, k2⟩ := HBs.out.put hp; rw [be_len] at bs2 ⊢; have HBs2 := Lib.hid bs2; have HK2 := Lib.hid k2; clear hp bs2 k2)
      go_roundw
      case rel =>
        refine ⟨k + 1, by omega, by go_num, A2, n + 2, c2, rfl, by have := HN.out; omega, ?_, HBs.out.blk HK2.out HBh.out (by decide), HBs.out.blk HK2.out HBb.out (by decide)⟩
        rw [flat_take HV.out, ← List.append_assoc]
        exact HBs2.out
      case measure => simp [intOf]; omega
    · have hb1 := HBs.out
      rw [show k = 4 by omega, head_done o na nf np nc La.out Lf.out Lp.out Lc.out] at hb1
      have HB1 := Lib.hid hb1
      have p0 := bb.cell 0
      have d4 : decide ((k : Int) < 4) = false := by simp only [decide_eq_false_iff_not]; omega
      clear hb1 HBs HBh hlt hk HN bb
      go_wp2_with fail
      clear p0
      -- the atoms
      go_loopw [5, 9, 53] (fun s v i wr => ∃ k : Nat, k ≤ na ∧ i = .int .i64 k ∧ ∃ A n c, s = .slice A n c ∧ n ≤ 13 + 33 * k ∧ BufSt w wr A n c (headB o ++ (o.atoms.take k).flatMap nameB) ∧ Blk wr w.heap.size 30 #[.slice Aa na ca, .slice Af nf cf, .slice Ap np cp, .slice Ac nc cc]) (fun _ _ i _ => na - (intOf i).toNat)
      case atStart => exact ⟨0, Nat.zero_le _, rfl, A, n, c, rfl, by omega, by simpa using HB1.out, HBb.out⟩
      case round =>
        clear HB1 HBb
        obtain ⟨k, hk, rfl, A, n, c, rfl, hn, bs, bb⟩ := hrel
        have HBs := Lib.hid bs
        have HBb := Lib.hid bb
        clear bs
        by_cases hlt : k < na
        · obtain ⟨x, hx⟩ := at_of La.out hlt
          obtain ⟨b, off, hA, hb2, hc⟩ := (H.out.atoms).field strE_len hx (by omega)
          subst hA
          have HX := Lib.hid hx
          have q0 : wr.cell? ⟨b, off + k * 1, none⟩ = some _ := (HBs.out.keep.cell0 hb2).trans (hc 0 _ rfl)
          rw [Nat.mul_one] at q0
          have hsz := HR.out.1 x (List.mem_of_getElem? hx)
          clear hx hc bb
          go_wp2_with (go_at_call 54; refine (putName_any A n c x _ w.heap.size _ (by omega) (by omega) HBs.out.grow HBs.out.keep.size).mono ?_; rintro e w2 hp; obtain ⟨A2, c2, rfl, bs2, k2⟩ := HBs.out.put hp; rw [nameB_len] at bs2 ⊢; have HBs2 := Lib.hid bs2; have HK2 := Lib.hid k2; clear hp bs2 k2)
          go_roundw
          case rel =>
            refine ⟨k + 1, by omega, by go_num, A2, n + (1 + x.size), c2, rfl, by omega, ?_, HBs.out.blk HK2.out HBb.out (by decide)⟩
            rw [flat_take HX.out, ← List.append_assoc]
            exact HBs2.out
          case measure => simp [intOf]; omega
        · obtain rfl : na = k := by omega
          have hb1 := HBs.out
          rw [flat_all La.out] at hb1
          have HB1 := Lib.hid hb1
          have p1 := bb.cell 1
          clear hb1 HBs hlt hk bb
          go_wp2_with fail
          clear p1
          -- the names with terms
          go_loopw [5, 65] (fun s i wr => ∃ k : Nat, k ≤ nf ∧ i = .int .i64 k ∧ ∃ A n c, s = .slice A n c ∧ n ≤ 3000000 + 34 * k ∧ BufSt w wr A n c ((headB o ++ o.atoms.flatMap nameB) ++ (o.funs.take k).flatMap funB) ∧ Blk wr w.heap.size 30 #[.slice Aa na ca, .slice Af nf cf, .slice Ap np cp, .slice Ac nc cc]) (fun _ i _ => nf - (intOf i).toNat)
          case atStart => exact ⟨0, Nat.zero_le _, rfl, A, n, c, rfl, by omega, by simpa using HB1.out, HBb.out⟩
          case round =>
            clear HB1 HBb
            obtain ⟨k, hk, rfl, A, n, c, rfl, hn, bs, bb⟩ := hrel
            have HBs := Lib.hid bs
            have HBb := Lib.hid bb
            clear bs
            by_cases hlt : k < nf
            · obtain ⟨x, hx⟩ := at_of Lf.out hlt
              obtain ⟨b, off, hA, hb2, hc⟩ := (H.out.funs).field funE_len hx (by omega)
              subst hA
              have HX := Lib.hid hx
              obtain ⟨hsz, ha0, ha8⟩ := HR.out.2.1 x (List.mem_of_getElem? hx)
              obtain ⟨v, hv⟩ := Int.eq_ofNat_of_zero_le ha0
              have q0 : wr.cell? ⟨b, off + k * 2, none⟩ = some _ := (HBs.out.keep.cell0 hb2).trans (hc 0 _ rfl)
              have q1 : wr.cell? ⟨b, off + k * 2 + 1, none⟩ = some (.int .i64 x.arity) := (HBs.out.keep.cell0 hb2).trans (hc 1 _ rfl)
              rw [hv] at q1 ha8
              have HE : Hid (funB x = nameB x.name ++ be 1 v) := by show _ = _; rw [funB, hv]; rfl
              clear hx hc bb hv ha0
              have HS3 := Lib.hid (HBs.out.go ((Keeps.refl wr []).alloc (.cells #[.string x.name, .int .i64 v] 114) |>.drew))
              have HX3 := Lib.hid (show Blk (wr.alloc (.cells #[.string x.name, .int .i64 v] 114)).drew wr.heap.size 114 #[.string x.name, .int .i64 v] from Blk.new wr _ _)
              have HO3 := Lib.hid (HBb.out.alloc (.cells #[.string x.name, .int .i64 v] 114)).drew
              go_wp2_with fail
              refine wp_region_tx (fun W' => W'.cell? ⟨wr.heap.size, 0, none⟩ = some (.string x.name) ∧ W'.cell? ⟨wr.heap.size, 1, none⟩ = some (.int .i64 v)) [(0, true), (1, true), (2, true), (4, true), (5, true), (3, false), (6, false), (7, false)] (by kernel_rfl) (by kernel_rfl) (by exact ⟨HX3.out.cell 0, HX3.out.cell 1⟩) (fun hHeld => ?_)
              (repeat (first | (refine wpTx_take (v := ?_) rfl (by assumption) ?_ (by rfl) ?_; rotate_left; (focus (intro w' hSw; (try dsimp only at hSw); go_simp; (try with_reducible rfl); done)); simp only [Act.put, List.setIfInBounds_toArray, List.set_cons_zero, List.set_cons_succ]) | (refine wpTx_skip rfl (by assumption) (by rfl) ?_; simp only [Act.put, List.setIfInBounds_toArray, List.set_cons_zero, List.set_cons_succ])))
              refine wpTx_go rfl (fun K hK => ?_)
              go_simp
              refine (putName_any A n c x.name _ w.heap.size _ (by omega) (by omega) HS3.out.grow HS3.out.keep.size).mono ?_
              rintro e w2 hp
              obtain ⟨A2, c2, rfl, bs2, k2⟩ := HS3.out.put hp
              rw [nameB_len] at bs2 ⊢
              have HBs2 := Lib.hid bs2
              have HX4 := Lib.hid (HS3.out.blk k2 HX3.out (by decide))
              have HO4 := Lib.hid (HS3.out.blk k2 HO3.out (by decide))
              clear hp bs2 k2
              refine hK.out _ _ ?_ ?_
              · exact ⟨HX4.out.cell 0, HX4.out.cell 1⟩
              (clear hHeld; intro hHeld; clear hK K; (try simp only [Act.put, List.setIfInBounds_toArray, List.set_cons_zero, List.set_cons_succ]))
              (repeat (first | (refine wpTx_take (v := ?_) rfl (by assumption) ?_ (by rfl) ?_; rotate_left; (focus (intro w' hSw; (try dsimp only at hSw); go_simp; (try with_reducible rfl); done)); simp only [Act.put, List.setIfInBounds_toArray, List.set_cons_zero, List.set_cons_succ]) | (refine wpTx_skip rfl (by assumption) (by rfl) ?_; simp only [Act.put, List.setIfInBounds_toArray, List.set_cons_zero, List.set_cons_succ])))
              refine wpTx_go rfl (fun K hK => ?_)
              go_simp
              refine (put_any A2 (n + (1 + x.name.size)) c2 v 1 _ w.heap.size _ (by omega) (by omega) HBs2.out.grow HBs2.out.keep.size).mono ?_
              rintro e w3 hp
              obtain ⟨A3, c3, rfl, bs3, k3⟩ := HBs2.out.put hp
              rw [be_len] at bs3 ⊢
              have HBs3 := Lib.hid bs3
              have HX5 := Lib.hid (HBs2.out.blk k3 HX4.out (by decide))
              have HO5 := Lib.hid (HBs2.out.blk k3 HO4.out (by decide))
              clear hp bs3 k3
              refine hK.out _ _ ?_ ?_
              · exact ⟨HX5.out.cell 0, HX5.out.cell 1⟩
              (clear hHeld; intro hHeld; clear hK K; (try simp only [Act.put, List.setIfInBounds_toArray, List.set_cons_zero, List.set_cons_succ]))
              (repeat (first | (refine wpTx_take (v := ?_) rfl (by assumption) ?_ (by rfl) ?_; rotate_left; (focus (intro w' hSw; (try dsimp only at hSw); go_simp; (try with_reducible rfl); done)); simp only [Act.put, List.setIfInBounds_toArray, List.set_cons_zero, List.set_cons_succ]) | (refine wpTx_skip rfl (by assumption) (by rfl) ?_; simp only [Act.put, List.setIfInBounds_toArray, List.set_cons_zero, List.set_cons_succ])))
              refine wpTx_last rfl (fun K hK => ?_)
              go_simp
              refine hK.out _ _ (NoPanic.normal ?_); clear hK K; (try simp only [Act.put, List.setIfInBounds_toArray, List.set_cons_zero, List.set_cons_succ])
              go_wp2_with fail
              go_roundw
              case rel =>
                refine ⟨k + 1, by omega, by go_num, A3, n + (1 + x.name.size) + 1, c3, rfl, by omega, ?_, HO5.out⟩
                rw [flat_take HX.out, HE.out, ← List.append_assoc, ← List.append_assoc]
                exact HBs3.out
              case measure => simp [intOf]; omega
            · obtain rfl : nf = k := by omega
              have hb1 := HBs.out
              rw [flat_all Lf.out] at hb1
              have HB1 := Lib.hid hb1
              have p2 := bb.cell 2
              clear hb1 HBs hlt hk bb
              go_wp2_with fail
              clear p2
              -- the predicates
              go_loopw [5, 80] (fun s i wr => ∃ k : Nat, k ≤ np ∧ i = .int .i64 k ∧ ∃ A n c, s = .slice A n c ∧ n ≤ 6000000 + 36 * k ∧ BufSt w wr A n c (((headB o ++ o.atoms.flatMap nameB) ++ o.funs.flatMap funB) ++ (o.preds.take k).flatMap predB) ∧ Blk wr w.heap.size 30 #[.slice Aa na ca, .slice Af nf cf, .slice Ap np cp, .slice Ac nc cc]) (fun _ i _ => np - (intOf i).toNat)
              case atStart => exact ⟨0, Nat.zero_le _, rfl, A, n, c, rfl, by omega, by simpa using HB1.out, HBb.out⟩
              case round =>
                clear HB1 HBb
                obtain ⟨k, hk, rfl, A, n, c, rfl, hn, bs, bb⟩ := hrel
                have HBs := Lib.hid bs
                have HBb := Lib.hid bb
                clear bs
                by_cases hlt : k < np
                · obtain ⟨x, hx⟩ := at_of Lp.out hlt
                  obtain ⟨b, off, hA, hb2, hc⟩ := (H.out.preds).field predE_len hx (by omega)
                  subst hA
                  have HX := Lib.hid hx
                  obtain ⟨hsz, ha0, ha8, he0, he1⟩ := HR.out.2.2.1 x (List.mem_of_getElem? hx)
                  obtain ⟨v, hv⟩ := Int.eq_ofNat_of_zero_le ha0
                  obtain ⟨u, hu⟩ := Int.eq_ofNat_of_zero_le he0
                  have q0 : wr.cell? ⟨b, off + k * 3, none⟩ = some _ := (HBs.out.keep.cell0 hb2).trans (hc 0 _ rfl)
                  have q1 : wr.cell? ⟨b, off + k * 3 + 1, none⟩ = some (.int .i64 x.arity) := (HBs.out.keep.cell0 hb2).trans (hc 1 _ rfl)
                  have q2 : wr.cell? ⟨b, off + k * 3 + 2, none⟩ = some (.int .i64 x.entry) := (HBs.out.keep.cell0 hb2).trans (hc 2 _ rfl)
                  rw [hv] at q1 ha8
                  rw [hu] at q2 he1
                  have HE : Hid (predB x = nameB x.name ++ (be 1 v ++ be 2 u)) := by show _ = _; rw [predB, hv, hu]; rfl
                  clear hx hc bb hv ha0 hu he0
                  have HS3 := Lib.hid (HBs.out.go ((Keeps.refl wr []).alloc (.cells #[.string x.name, .int .i64 v, .int .i64 u] 115) |>.drew))
                  have HX3 := Lib.hid (show Blk (wr.alloc (.cells #[.string x.name, .int .i64 v, .int .i64 u] 115)).drew wr.heap.size 115 #[.string x.name, .int .i64 v, .int .i64 u] from Blk.new wr _ _)
                  have HO3 := Lib.hid (HBb.out.alloc (.cells #[.string x.name, .int .i64 v, .int .i64 u] 115)).drew
                  go_wp2_with fail
                  refine wp_region_tx (fun W' => W'.cell? ⟨wr.heap.size, 0, none⟩ = some (.string x.name) ∧ W'.cell? ⟨wr.heap.size, 1, none⟩ = some (.int .i64 v) ∧ W'.cell? ⟨wr.heap.size, 2, none⟩ = some (.int .i64 u)) [(0, true), (1, true), (2, true), (4, true), (5, true), (7, true), (8, true), (3, false), (6, false), (9, false), (10, false)] (by kernel_rfl) (by kernel_rfl) (by exact ⟨HX3.out.cell 0, HX3.out.cell 1, HX3.out.cell 2⟩) (fun hHeld => ?_)
                  (repeat (first | (refine wpTx_take (v := ?_) rfl (by assumption) ?_ (by rfl) ?_; rotate_left; (focus (intro w' hSw; (try dsimp only at hSw); go_simp; (try with_reducible rfl); done)); simp only [Act.put, List.setIfInBounds_toArray, List.set_cons_zero, List.set_cons_succ]) | (refine wpTx_skip rfl (by assumption) (by rfl) ?_; simp only [Act.put, List.setIfInBounds_toArray, List.set_cons_zero, List.set_cons_succ])))
                  refine wpTx_go rfl (fun K hK => ?_)
                  go_simp
                  refine (putName_any A n c x.name _ w.heap.size _ (by omega) (by omega) HS3.out.grow HS3.out.keep.size).mono ?_
                  rintro e w2 hp
                  obtain ⟨A2, c2, rfl, bs2, k2⟩ := HS3.out.put hp
                  rw [nameB_len] at bs2 ⊢
                  have HBs2 := Lib.hid bs2
                  have HX4 := Lib.hid (HS3.out.blk k2 HX3.out (by decide))
                  have HO4 := Lib.hid (HS3.out.blk k2 HO3.out (by decide))
                  clear hp bs2 k2
                  refine hK.out _ _ ?_ ?_
                  · exact ⟨HX4.out.cell 0, HX4.out.cell 1, HX4.out.cell 2⟩
                  (clear hHeld; intro hHeld; clear hK K; (try simp only [Act.put, List.setIfInBounds_toArray, List.set_cons_zero, List.set_cons_succ]))
                  (repeat (first | (refine wpTx_take (v := ?_) rfl (by assumption) ?_ (by rfl) ?_; rotate_left; (focus (intro w' hSw; (try dsimp only at hSw); go_simp; (try with_reducible rfl); done)); simp only [Act.put, List.setIfInBounds_toArray, List.set_cons_zero, List.set_cons_succ]) | (refine wpTx_skip rfl (by assumption) (by rfl) ?_; simp only [Act.put, List.setIfInBounds_toArray, List.set_cons_zero, List.set_cons_succ])))
                  refine wpTx_go rfl (fun K hK => ?_)
                  go_simp
                  refine (put_any A2 (n + (1 + x.name.size)) c2 v 1 _ w.heap.size _ (by omega) (by omega) HBs2.out.grow HBs2.out.keep.size).mono ?_
                  rintro e w3 hp
                  obtain ⟨A3, c3, rfl, bs3, k3⟩ := HBs2.out.put hp
                  rw [be_len] at bs3 ⊢
                  have HBs3 := Lib.hid bs3
                  have HX5 := Lib.hid (HBs2.out.blk k3 HX4.out (by decide))
                  have HO5 := Lib.hid (HBs2.out.blk k3 HO4.out (by decide))
                  clear hp bs3 k3
                  refine hK.out _ _ ?_ ?_
                  · exact ⟨HX5.out.cell 0, HX5.out.cell 1, HX5.out.cell 2⟩
                  (clear hHeld; intro hHeld; clear hK K; (try simp only [Act.put, List.setIfInBounds_toArray, List.set_cons_zero, List.set_cons_succ]))
                  (repeat (first | (refine wpTx_take (v := ?_) rfl (by assumption) ?_ (by rfl) ?_; rotate_left; (focus (intro w' hSw; (try dsimp only at hSw); go_simp; (try with_reducible rfl); done)); simp only [Act.put, List.setIfInBounds_toArray, List.set_cons_zero, List.set_cons_succ]) | (refine wpTx_skip rfl (by assumption) (by rfl) ?_; simp only [Act.put, List.setIfInBounds_toArray, List.set_cons_zero, List.set_cons_succ])))
                  refine wpTx_go rfl (fun K hK => ?_)
                  go_simp
                  refine (put_any A3 (n + (1 + x.name.size) + 1) c3 u 2 _ w.heap.size _ (by omega) (by omega) HBs3.out.grow HBs3.out.keep.size).mono ?_
                  rintro e w4 hp
                  obtain ⟨A4, c4, rfl, bs4, k4⟩ := HBs3.out.put hp
                  rw [be_len] at bs4 ⊢
                  have HBs4 := Lib.hid bs4
                  have HX6 := Lib.hid (HBs3.out.blk k4 HX5.out (by decide))
                  have HO6 := Lib.hid (HBs3.out.blk k4 HO5.out (by decide))
                  clear hp bs4 k4
                  refine hK.out _ _ ?_ ?_
                  · exact ⟨HX6.out.cell 0, HX6.out.cell 1, HX6.out.cell 2⟩
                  (clear hHeld; intro hHeld; clear hK K; (try simp only [Act.put, List.setIfInBounds_toArray, List.set_cons_zero, List.set_cons_succ]))
                  (repeat (first | (refine wpTx_take (v := ?_) rfl (by assumption) ?_ (by rfl) ?_; rotate_left; (focus (intro w' hSw; (try dsimp only at hSw); go_simp; (try with_reducible rfl); done)); simp only [Act.put, List.setIfInBounds_toArray, List.set_cons_zero, List.set_cons_succ]) | (refine wpTx_skip rfl (by assumption) (by rfl) ?_; simp only [Act.put, List.setIfInBounds_toArray, List.set_cons_zero, List.set_cons_succ])))
                  refine wpTx_last rfl (fun K hK => ?_)
                  go_simp
                  refine hK.out _ _ (NoPanic.normal ?_); clear hK K; (try simp only [Act.put, List.setIfInBounds_toArray, List.set_cons_zero, List.set_cons_succ])
                  go_wp2_with fail
                  go_roundw
                  case rel =>
                    refine ⟨k + 1, by omega, by go_num, A4, n + (1 + x.name.size) + 1 + 2, c4, rfl, by omega, ?_, HO6.out⟩
                    have := HBs4.out
                    rw [flat_take HX.out, HE.out]
                    simpa only [List.append_assoc] using this
                  case measure => simp [intOf]; omega
                · obtain rfl : np = k := by omega
                  have hb1 := HBs.out
                  rw [flat_all Lp.out] at hb1
                  have HB1 := Lib.hid hb1
                  have p3 := bb.cell 3
                  clear hb1 HBs hlt hk bb
                  go_wp2_with fail
                  clear p3
                  -- the code
                  go_loopw [5, 16, 17, 98] (fun s v16 v17 i wr => ∃ k : Nat, k ≤ nc ∧ i = .int .i64 k ∧ ∃ A n c, s = .slice A n c ∧ n ≤ 9000000 + 9 * k ∧ BufSt w wr A n c ((((headB o ++ o.atoms.flatMap nameB) ++ o.funs.flatMap funB) ++ o.preds.flatMap predB) ++ (o.code.take k).flatMap insB)) (fun _ _ _ i _ => nc - (intOf i).toNat)
                  case atStart => exact ⟨0, Nat.zero_le _, rfl, A, n, c, rfl, by omega, by simpa using HB1.out⟩
                  case round =>
                    clear HB1 HBb
                    obtain ⟨wo, rfl⟩ : ∃ wo : World, wo = wr := ⟨_, rfl⟩
                    obtain ⟨k, hk, rfl, A, n, c, rfl, hn, bs⟩ := hrel
                    have HBs := Lib.hid bs
                    clear bs
                    by_cases hlt : k < nc
                    · obtain ⟨x, hx⟩ := at_of Lc.out hlt
                      obtain ⟨b, off, hA, hb2, hc⟩ := (H.out.code).field insE_len hx (by omega)
                      subst hA
                      have HX := Lib.hid hx
                      obtain ⟨ho0, ho1, hargs⟩ := HR.out.2.2.2 x (List.mem_of_getElem? hx)
                      have HArgs := Lib.hid hargs
                      obtain ⟨v, hv⟩ := Int.eq_ofNat_of_zero_le ho0
                      have q0 : wo.cell? ⟨b, off + k * 5, none⟩ = some (.int .i64 x.op) := (HBs.out.keep.cell0 hb2).trans (hc 0 _ rfl)
                      have q1 : wo.cell? ⟨b, off + k * 5 + 1, none⟩ = some _ := (HBs.out.keep.cell0 hb2).trans (hc 1 _ rfl)
                      have q2 : wo.cell? ⟨b, off + k * 5 + 2, none⟩ = some _ := (HBs.out.keep.cell0 hb2).trans (hc 2 _ rfl)
                      have q3 : wo.cell? ⟨b, off + k * 5 + 3, none⟩ = some _ := (HBs.out.keep.cell0 hb2).trans (hc 3 _ rfl)
                      have q4 : wo.cell? ⟨b, off + k * 5 + 4, none⟩ = some _ := (HBs.out.keep.cell0 hb2).trans (hc 4 _ rfl)
                      have HV := Lib.hid hv
                      have HE : Hid (insB x = be 1 v ++ (List.range (kindsOf x.op).length).flatMap (argB x)) := by show _ = _; rw [insB]; congr 2; rw [hv]; rfl
                      clear hx hc hargs hv
                      rw [HV.out] at q0
                      have HS3 := Lib.hid (HBs.out.go ((Keeps.refl wo []).alloc (.cells #[.int .i64 v, .int .i64 x.a0, .int .i64 x.a1, .int .i64 x.a2, .int .i64 x.a3] 117)))
                      have HX3 := Lib.hid (Blk.new wo 117 #[.int .i64 v, .int .i64 x.a0, .int .i64 x.a1, .int .i64 x.a2, .int .i64 x.a3])
                      go_wp2_with (go_at_call 53; refine (put_any A n c v 1 _ w.heap.size _ (by omega) (by omega) HS3.out.grow HS3.out.keep.size).mono ?_; rintro e w2 hp; obtain ⟨A2, c2, rfl, bs2, k2⟩ := HS3.out.put hp; rw [be_len] at bs2 ⊢; have HBs2 := Lib.hid bs2; have HX4 := Lib.hid (HS3.out.blk k2 HX3.out (by decide)); have z0 := HX4.out.cell 0; clear hp bs2 k2 q0 q1 q2 q3 q4)
                      rw [← HV.out]
                      refine (kindsF_any x.op _).mono ?_
                      rintro e w3 ⟨A5, c5, rfl, hN, k3, hfr⟩
                      have HFR := Lib.hid hfr
                      have HLT2 := Lib.hid (HBs2.out.lt)
                      have hs23 := k3.size
                      clear hfr
                      have HBs3 := Lib.hid (HBs2.out.go k3)
                      have HX5 := Lib.hid (HX4.out.keep k3 (by simp))
                      have HN := Lib.hid hN
                      have hfew := kinds_few x.op
                      clear z0 k3 hN
                      obtain ⟨m, hm⟩ : ∃ m, (kindsOf x.op).length = m := ⟨_, rfl⟩
                      rw [hm] at hfew ⊢
                      have HM := Lib.hid hm
                      clear hm
                      have hs3 : wo.heap.size < w3.heap.size := HX5.out.lt
                      go_wp2_with fail
                      go_loopw [5, 16, 17, 110] (fun s v16 v17 i wr => ∃ j : Nat, j ≤ m ∧ i = .int .i64 j ∧ ∃ A n2 c, s = .slice A n2 c ∧ n2 ≤ n + 1 + 2 * j ∧ BufSt w wr A n2 c (((((headB o ++ o.atoms.flatMap nameB) ++ o.funs.flatMap funB) ++ o.preds.flatMap predB) ++ (o.code.take k).flatMap insB) ++ be 1 v ++ (List.range j).flatMap (argB x)) ∧ Blk wr wo.heap.size 117 #[.int .i64 v, .int .i64 x.a0, .int .i64 x.a1, .int .i64 x.a2, .int .i64 x.a3] ∧ Nums .i64 wr w3.heap.size A5 (kindsOf x.op) ∧ Hid (∀ q, q ∈ ownL (.slice A n2 c) → q < w2.heap.size ∨ w3.heap.size ≤ q) ∧ w3.heap.size ≤ wr.heap.size) (fun _ _ _ i _ => m - (intOf i).toNat)
                      case atStart => exact ⟨0, Nat.zero_le _, rfl, A2, n + 1, c2, rfl, by omega, by simpa using HBs3.out, HX5.out, HN.out, fun q hq => .inl (HLT2.out q hq), Nat.le_refl _⟩
                      case round =>
                        clear HBs3 HX5 HN HBs2 HX4 HS3 HX3
                        obtain ⟨j, hj, rfl, A6, n6, c6, rfl, hn6, bs, bx, bn, HOW, hs3r⟩ := hrel
                        have HBs6 := Lib.hid bs
                        have HX6 := Lib.hid bx
                        have HN6 := Lib.hid bn
                        clear bs bx
                        by_cases hlj : j < m
                        · obtain ⟨b7, off7, y, hA7, hb7, hc7, hy⟩ := bn j (by rw [HM.out]; exact hlj)
                          subst hA7
                          have hx1 := kinds_mem x.op y (List.mem_of_getElem? hy)
                          obtain ⟨q, rfl⟩ := Int.eq_ofNat_of_zero_le (show 0 ≤ y by omega)
                          have ha0 := HArgs.out j (by rw [HM.out]; exact hlj)
                          obtain ⟨u, hu⟩ := Int.eq_ofNat_of_zero_le ha0
                          have HE2 : Hid (argB x j = be (szOf q) u) := by show _ = _; rw [argB, List.getD_eq_getElem?_getD, hy, hu]; rfl
                          have q6 : wr.cell? ⟨wo.heap.size, 1 + j, none⟩ = some (.int .i64 u) := by rw [← hu]; exact ins_cell' HX6.out j (by omega)
                          have hz := szOf_le q
                          have b1 : (j : Int) < (m : Int) := by omega
                          have b0 : (0 : Int) ≤ (j : Int) := Int.natCast_nonneg _
                          have b4 : (j : Int) < 4 := by omega
                          have hszr := HBs6.out.keep.size
                          have hsz := sizeOf_any q
                          obtain ⟨sz, hszq⟩ : ∃ sz, szOf q = sz := ⟨_, rfl⟩
                          rw [hszq] at hz hsz HE2
                          have HSZ := Lib.hid hsz
                          clear hy ha0 hu bn hsz hszq
                          go_wp2_with fail
                          refine wp_region_tx (fun W' => W'.cell? ⟨wo.heap.size, 1 + j, none⟩ = some (.int .i64 u)) [(0, true), (1, true), (2, true), (3, true), (4, true), (5, true), (6, false), (7, false), (8, false)] (by kernel_rfl) (by kernel_rfl) (by exact q6) (fun hHeld => ?_)
                          (repeat (first | (refine wpTx_take (v := ?_) rfl (by assumption) ?_ (by rfl) ?_; rotate_left; (focus (intro w' hSw; (try dsimp only at hSw); go_simp; (try with_reducible rfl); done)); simp only [Act.put, List.setIfInBounds_toArray, List.set_cons_zero, List.set_cons_succ]) | (refine wpTx_skip rfl (by assumption) (by rfl) ?_; simp only [Act.put, List.setIfInBounds_toArray, List.set_cons_zero, List.set_cons_succ])))
                          refine wpTx_go rfl (fun K hK => ?_)
                          go_simp
                          refine (HSZ.out _).mono ?_
                          rintro e w7 ⟨rfl, rfl⟩
                          refine hK.out _ _ ?_ ?_
                          · exact q6
                          (clear hHeld; intro hHeld; clear hK K; (try simp only [Act.put, List.setIfInBounds_toArray, List.set_cons_zero, List.set_cons_succ]))
                          refine wpTx_go rfl (fun K hK => ?_)
                          go_simp
                          refine (put_any A6 n6 c6 u sz _ w.heap.size _ (by omega) (by omega) (HBs6.out.go (Keeps.refl wr []).drew).grow HBs6.out.keep.size).mono ?_
                          rintro e w8 hp
                          have HP8 := Lib.hid hp
                          obtain ⟨A8, c8, he8, bs8, k8⟩ := (HBs6.out.go (Keeps.refl wr []).drew).put hp
                          obtain ⟨A8', c8', he8', ho8, k8', n8⟩ := hp
                          have hAA := he8'.symm.trans he8
                          injection hAA with hAA
                          injection hAA with hAA1 _ hAA3
                          subst hAA1 hAA3 he8
                          clear ho8 k8' he8' HP8
                          rw [be_len] at bs8 ⊢
                          have HBs8 := Lib.hid bs8
                          have HX8 := Lib.hid ((HBs6.out.go (Keeps.refl wr []).drew).blk k8 HX6.out.drew (by decide))
                          have HK8 := Lib.hid k8
                          have HOW8 := Lib.hid (newOr_low n8 HOW.out (by simpa using hs3r))
                          have hs8 := k8.size
                          rw [be_len] at HOW8
                          clear bs8 k8 n8
                          refine hK.out _ _ ?_ ?_
                          · exact ((HX8.out.cell (1 + j)).trans (HX6.out.cell (1 + j)).symm).trans q6
                          (clear hHeld; intro hHeld; clear hK K; (try simp only [Act.put, List.setIfInBounds_toArray, List.set_cons_zero, List.set_cons_succ]))
                          (repeat (first | (refine wpTx_take (v := ?_) rfl (by assumption) ?_ (by rfl) ?_; rotate_left; (focus (intro w' hSw; (try dsimp only at hSw); go_simp; (try with_reducible rfl); done)); simp only [Act.put, List.setIfInBounds_toArray, List.set_cons_zero, List.set_cons_succ]) | (refine wpTx_skip rfl (by assumption) (by rfl) ?_; simp only [Act.put, List.setIfInBounds_toArray, List.set_cons_zero, List.set_cons_succ])))
                          refine wpTx_last rfl (fun K hK => ?_)
                          go_simp
                          refine hK.out _ _ (NoPanic.normal ?_); clear hK K; (try simp only [Act.put, List.setIfInBounds_toArray, List.set_cons_zero, List.set_cons_succ])
                          go_wp2_with fail
                          go_roundw
                          case rel =>
                            refine ⟨j + 1, by omega, by go_num, A8', n6 + sz, c8', rfl, by omega, ?_, HX8.out, ?_, HOW8.out, by simp at hs8; omega⟩
                            · rw [List.range_succ, List.flatMap_append, List.flatMap_singleton, HE2.out, ← List.append_assoc]
                              exact HBs8.out
                            · have hb7' := HFR.out b7 off7 rfl
                              exact Nums.keepB (HN6.out.drew) HK8.out (fun hm => by rcases HOW.out b7 hm with h | h <;> omega) (by simp; omega)
                          case measure => simp [intOf]; omega
                        · obtain rfl : m = j := by omega
                          have hb1 := HBs6.out
                          have HL : Hid ((o.code.take (k + 1)).flatMap insB = (o.code.take k).flatMap insB ++ (be 1 v ++ (List.range m).flatMap (argB x))) := by show _ = _; rw [flat_take HX.out, HE.out, HM.out]
                          rw [List.append_assoc, List.append_assoc _ _ (be 1 v ++ _), ← HL.out] at hb1
                          have HB1 := Lib.hid hb1
                          clear hb1 bn
                          go_wp2_with fail
                          go_roundw
                          case rel => exact ⟨k + 1, by omega, by go_num, A6, n6, c6, rfl, by omega, HB1.out⟩
                          case measure => simp [intOf]; omega
                    · obtain rfl : nc = k := by omega
                      have hb1 := HBs.out
                      rw [flat_all Lc.out, body_done o] at hb1
                      have HB1 := Lib.hid hb1
                      clear hb1 HBs hlt hk
                      obtain ⟨q, hq⟩ := Int.eq_ofNat_of_zero_le (Crc.int_bd (Crc.go 0#32 (bodyB o))).1
                      have hq2 := (Crc.int_bd (Crc.go 0#32 (bodyB o))).2
                      rw [hq] at hq2
                      have HSum : Hid (sumB (bodyB o) = be 4 q) := by show _ = _; rw [sumB, hq]; rfl
                      have hcrc := crcSum_any (some ⟨wo.heap.size, 0, none⟩) 1 1 [bodyB o] (wo.heap.size + 1) (wo.alloc (.cells #[.slice A n c] 22)) rfl (by omega) (by
                        intro i hi
                        match i, hi with
                        | 0, _ => exact ⟨wo.heap.size, 0, A, c, bodyB o, rfl, by omega, by rw [HB1.out.len]; exact (Blk.new wo _ _).cell 0, rfl, (HB1.out.nums.alloc (Nat.le_refl _) _).more (by omega), isByte_body o, by rw [HB1.out.len]; omega⟩)
                      rw [show ([bodyB o].foldl Crc.go 0#32) = Crc.go 0#32 (bodyB o) from rfl, hq] at hcrc
                      have HCrc := Lib.hid hcrc
                      have HS9 := Lib.hid (HB1.out.go ((Keeps.refl wo []).alloc (.cells #[.slice A n c] 22)))
                      clear hq hcrc
                      go_wp2_with (first
                        | (go_at_call 46; refine HCrc.out.mono ?_; rintro e w7 ⟨rfl, rfl⟩)
                        | (go_at_call 53; refine (put_any A n c q 4 _ w.heap.size _ (by omega) (by omega) HS9.out.grow HS9.out.keep.size).mono ?_; rintro e w8 hp; have HP := Lib.hid hp; obtain ⟨A8, c8, rfl, ho8, k8, n8⟩ := hp; obtain ⟨A9, c9, _, bs9, k9⟩ := HS9.out.put HP.out; have hl := ho8.1; rw [be_len] at ho8 hl ⊢; have HO8 := Lib.hid ho8; have HB9 := Lib.hid bs9; clear ho8 k8 n8 bs9 k9))
                      go_ret2
                      refine HQ.out ?_ ?_ HB9.out.keep
                      · rw [encB, HSum.out]
                        rw [u8s_len] at hl
                        omega
                      · rw [encB, HSum.out]
                        exact HO8.out
end Go.Proofs.Ytdcjiohbnnipdaa
