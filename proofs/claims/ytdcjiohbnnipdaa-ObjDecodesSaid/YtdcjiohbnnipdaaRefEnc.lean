/- The walk of the document's Encode. Printed by gen_refenc.py. -/
import Derived.Test.YtdcjiohbnnipdaaEncode
namespace Go.Proofs.Ytdcjiohbnnipdaa
open Go.RowKit
attribute [local irreducible] encB bodyB sumB headB

/-- The document's buffer: each call lays a fresh one. -/
structure RefBuf (w wr : World) (A : Option Addr) (n c : Nat) (l : List Int) : Prop where
  len : l.length = n
  rd : Rd wr A (u8s l)
  none : A = none → c = 0
  keep : Keeps w wr []
theorem RefBuf.go {w wr W : World} {A : Option Addr} {n c : Nat} {l : List Int} (s : RefBuf w wr A n c l) (k : Keeps wr W []) : RefBuf w W A n c l := ⟨s.len, s.rd.keep k, s.none, s.keep.trans k⟩
theorem RefBuf.num {w wr w' : World} {A : Option Addr} {n c : Nat} {l more : List Int} {e : Ending} (s : RefBuf w wr A n c l) (h : NumDone wr n l more e w') :
    ∃ A' c', e = .returned (.slice A' (n + more.length) c') ∧ RefBuf w w' A' (n + more.length) c' (l ++ more) ∧ Keeps wr w' [] := by
  obtain ⟨A', c', he, ho, hk⟩ := h
  exact ⟨A', c', he, ⟨by rw [List.length_append, s.len], Rd.of_own ho, own_none0 ho, s.keep.trans hk⟩, hk⟩
theorem RefBuf.done {w wr w' : World} {A : Option Addr} {n c : Nat} {l more : List Int} {e : Ending} (s : RefBuf w wr A n c l) (h : NumDone wr n l more e w') :
    ∃ A' c', e = .returned (.slice A' (n + more.length) c') ∧ w'.ownsRow w.heap.size 5 1 (.slice A' (n + more.length) c') (n + more.length) (u8s (l ++ more)) ∧ Keeps w w' [] := by
  obtain ⟨A', c', he, ho, hk⟩ := h
  exact ⟨A', c', he, own_base ho s.keep.size, s.keep.trans hk⟩
theorem RefBuf.nums {w wr : World} {A : Option Addr} {n c : Nat} {l : List Int} (s : RefBuf w wr A n c l) : Nums .u8 wr wr.heap.size A l := Row.toNums (K := .u8) s.rd

theorem mostOf_top (k : Nat) : mostOf k ≤ 65535 := by
  by_cases h : k < 10
  · revert k
    decide
  · unfold mostOf
    rw [List.getD_eq_getElem?_getD, List.getElem?_eq_none (show mosts.length ≤ k by show 10 ≤ k; omega)]
    decide
theorem mayOk_top {op : Int} {k : Nat} {n : Int} (h : mayOk op k n = true) : n ≤ 65535 := by
  have h0 := mostOf_top k
  simp only [mayOk, Bool.or_eq_true, Bool.and_eq_true, decide_eq_true_eq, beq_iff_eq] at h
  rcases h with h | h
  · omega
  · omega
theorem insOk_top {i : LIns} (h : insOk i = true) {k : Nat} (hk : k < (kindsOf i.op).length) : i.arg k ≤ 65535 := by
  have h4 := kinds_few i.op
  simp only [insOk, Bool.and_eq_true, List.all_eq_true, List.mem_range] at h
  have h1 := h.2 k (by omega)
  rw [argOk, List.getElem?_eq_getElem hk] at h1
  exact mayOk_top h1

theorem head4 (o : LObj) (na nf np nc : Nat) (h1 : o.atoms.length = na) (h2 : o.funs.length = nf) (h3 : o.preds.length = np) (h4 : o.code.length = nc) : [82, 83, 76, 86, 1] ++ be 2 na ++ be 2 nf ++ be 2 np ++ be 2 nc = headB o := by
  subst h1 h2 h3 h4
  simp only [headB, List.append_assoc]

set_option maxRecDepth 100000 in
set_option maxHeartbeats 12800000 in
theorem refEncode_any (o : LObj) : ObjCalls 20 o (EncDone o) := by
  intro Aa Af Ap Ac na nf np nc ca cf cp cc w h hf la lf lp lc
  have HF := Lib.hid hf
  have H := Lib.hid h
  have ga := hf.atoms
  have gf := hf.funs
  have gp := hf.preds
  have gc := hf.code
  rw [la] at ga
  rw [lf] at gf
  rw [lp] at gp
  rw [lc] at gc
  have La := Lib.hid la
  have Lf := Lib.hid lf
  have Lp := Lib.hid lp
  have Lc := Lib.hid lc
  clear h hf la lf lp lc
  have st : BoxSt w (w.alloc (.cells #[.slice Aa na ca, .slice Af nf cf, .slice Ap np cp, .slice Ac nc cc] 38)) w.heap.size 38 #[.slice Aa na ca, .slice Af nf cf, .slice Ap np cp, .slice Ac nc cc] := ⟨Blk.new _ _ _, (Keeps.refl _ []).alloc _⟩
  have HST := Lib.hid st
  clear st
  have hch := refCheck_any o _ _ _ _ _ _ _ _ ca cf cp cc _ (H.out.keep HST.out.keep) HF.out La.out Lf.out Lp.out Lc.out
  by_cases h0 : checkE o = 0
  case neg =>
    obtain ⟨z, hz⟩ : ∃ z, checkE o = z := ⟨_, rfl⟩
    have HQ : Hid (∀ w', Keeps w w' [] → EncDone o w (.returned (.tuple #[.slice none 0 0, .int .i64 z])) w') := fun w' k => by rw [← hz]; exact encDone_err h0 k
    rw [hz] at h0 hch
    have d0 : (z != 0) = true := by simpa using h0
    have HC := Lib.hid hch
    clear h0 hz hch
    go_enter Try.func20, Try.ntmps20
    go_wp2_with (go_at_call 22; refine HC.out.mono ?_; rintro e w1 ⟨rfl, k1⟩)
    go_ret2
    exact HQ.out _ (HST.out.keep.trans k1)
  have HR := Lib.hid (enc_ranges h0)
  have HTop : Hid (∀ i ∈ o.code, ∀ k, k < (kindsOf i.op).length → i.arg k ≤ 65535) := fun i hi k hk => insOk_top ((checkE_range h0).2.2.2 i hi).2 hk
  have HQ : Hid (∀ {w' : World} {A : Option Addr} {n c : Nat}, (encB o).length = n → w'.ownsRow w.heap.size 5 1 (.slice A n c) n (u8s (encB o)) → Keeps w w' [] → EncDone o w (.returned (.tuple #[.slice A n c, .int .i64 0])) w') := fun h1 h2 h3 => encDone_ok h0 h1 h2 h3
  rw [h0] at hch
  have HC := Lib.hid hch
  clear h0 hch
  go_enter Try.func20, Try.ntmps20
  go_wp2_with (go_at_call 22; refine HC.out.mono ?_; rintro e w1 ⟨rfl, k1⟩; have S1 := Lib.hid (HST.out.go k1); clear k1)
  have hb0 : RefBuf w (w1.alloc (.cells #[.int .u8 82, .int .u8 83, .int .u8 76, .int .u8 86, .int .u8 1] 5)).drew (some ⟨w1.heap.size, 0, none⟩) 5 5 [82, 83, 76, 86, 1] :=
    ⟨rfl, (Rd.one w1 5 [.int .u8 82, .int .u8 83, .int .u8 76, .int .u8 86, .int .u8 1]).drew, (fun h => by cases h), S1.out.keep.trans (((Keeps.refl _ []).alloc _).drew)⟩
  have HB0 := Lib.hid hb0
  have hx0 : Keeps w1 (w1.alloc (.cells #[.int .u8 82, .int .u8 83, .int .u8 76, .int .u8 86, .int .u8 1] 5)).drew [] := ((Keeps.refl _ []).alloc _).drew
  have HX0 := Lib.hid (S1.out.go hx0)
  clear hb0 hx0
  refine wp_region_tx (fun W' => W'.cell? ⟨w.heap.size, 0, none⟩ = some (.slice Aa na ca) ∧ W'.cell? ⟨w.heap.size, 1, none⟩ = some (.slice Af nf cf) ∧ W'.cell? ⟨w.heap.size, 2, none⟩ = some (.slice Ap np cp) ∧ W'.cell? ⟨w.heap.size, 3, none⟩ = some (.slice Ac nc cc)) [(0, true), (1, true), (2, true), (3, true), (5, true), (6, true), (7, true), (9, true), (10, true), (11, true), (13, true), (14, true), (15, true), (4, false), (8, false), (12, false), (16, false), (17, false)] (by kernel_rfl) (by kernel_rfl) (by exact HX0.out.four) (fun hHeld => ?_)
  (repeat (first | (refine wpTx_take (v := ?_) rfl (by assumption) ?_ (by rfl) ?_; rotate_left; (focus (intro w' hSw; (try dsimp only at hSw); go_simp; (try with_reducible rfl); done)); simp only [Act.put, List.setIfInBounds_toArray, List.set_cons_zero, List.set_cons_succ]) | (refine wpTx_skip rfl (by assumption) (by rfl) ?_; simp only [Act.put, List.setIfInBounds_toArray, List.set_cons_zero, List.set_cons_succ])))
  refine wpTx_go rfl (fun K hK => ?_)
  go_simp
  refine (num_any 1 (some ⟨w1.heap.size, 0, none⟩) 5 5 na na 2 _ _ (by omega) rfl rfl (by omega) HB0.out.len (by omega) HB0.out.rd HB0.out.none).mono ?_
  rintro e w2 hp
  obtain ⟨A2, c2, rfl, bs2, k2⟩ := HB0.out.num hp
  rw [be_len] at bs2 ⊢
  have HB2 := Lib.hid bs2
  have HX2 := Lib.hid (HX0.out.go k2)
  clear hp bs2 k2
  refine hK.out _ _ ?_ ?_
  · exact HX2.out.four
  (clear hHeld; intro hHeld; clear hK K; (try simp only [Act.put, List.setIfInBounds_toArray, List.set_cons_zero, List.set_cons_succ]))
  (repeat (first | (refine wpTx_take (v := ?_) rfl (by assumption) ?_ (by rfl) ?_; rotate_left; (focus (intro w' hSw; (try dsimp only at hSw); go_simp; (try with_reducible rfl); done)); simp only [Act.put, List.setIfInBounds_toArray, List.set_cons_zero, List.set_cons_succ]) | (refine wpTx_skip rfl (by assumption) (by rfl) ?_; simp only [Act.put, List.setIfInBounds_toArray, List.set_cons_zero, List.set_cons_succ])))
  refine wpTx_go rfl (fun K hK => ?_)
  go_simp
  refine (num_any 1 A2 7 c2 nf nf 2 _ _ (by omega) rfl rfl (by omega) HB2.out.len (by omega) HB2.out.rd HB2.out.none).mono ?_
  rintro e w3 hp
  obtain ⟨A3, c3, rfl, bs3, k3⟩ := HB2.out.num hp
  rw [be_len] at bs3 ⊢
  have HB3 := Lib.hid bs3
  have HX3 := Lib.hid (HX2.out.go k3)
  clear hp bs3 k3
  refine hK.out _ _ ?_ ?_
  · exact HX3.out.four
  (clear hHeld; intro hHeld; clear hK K; (try simp only [Act.put, List.setIfInBounds_toArray, List.set_cons_zero, List.set_cons_succ]))
  (repeat (first | (refine wpTx_take (v := ?_) rfl (by assumption) ?_ (by rfl) ?_; rotate_left; (focus (intro w' hSw; (try dsimp only at hSw); go_simp; (try with_reducible rfl); done)); simp only [Act.put, List.setIfInBounds_toArray, List.set_cons_zero, List.set_cons_succ]) | (refine wpTx_skip rfl (by assumption) (by rfl) ?_; simp only [Act.put, List.setIfInBounds_toArray, List.set_cons_zero, List.set_cons_succ])))
  refine wpTx_go rfl (fun K hK => ?_)
  go_simp
  refine (num_any 1 A3 9 c3 np np 2 _ _ (by omega) rfl rfl (by omega) HB3.out.len (by omega) HB3.out.rd HB3.out.none).mono ?_
  rintro e w4 hp
  obtain ⟨A4, c4, rfl, bs4, k4⟩ := HB3.out.num hp
  rw [be_len] at bs4 ⊢
  have HB4 := Lib.hid bs4
  have HX4 := Lib.hid (HX3.out.go k4)
  clear hp bs4 k4
  refine hK.out _ _ ?_ ?_
  · exact HX4.out.four
  (clear hHeld; intro hHeld; clear hK K; (try simp only [Act.put, List.setIfInBounds_toArray, List.set_cons_zero, List.set_cons_succ]))
  (repeat (first | (refine wpTx_take (v := ?_) rfl (by assumption) ?_ (by rfl) ?_; rotate_left; (focus (intro w' hSw; (try dsimp only at hSw); go_simp; (try with_reducible rfl); done)); simp only [Act.put, List.setIfInBounds_toArray, List.set_cons_zero, List.set_cons_succ]) | (refine wpTx_skip rfl (by assumption) (by rfl) ?_; simp only [Act.put, List.setIfInBounds_toArray, List.set_cons_zero, List.set_cons_succ])))
  refine wpTx_go rfl (fun K hK => ?_)
  go_simp
  refine (num_any 1 A4 11 c4 nc nc 2 _ _ (by omega) rfl rfl (by omega) HB4.out.len (by omega) HB4.out.rd HB4.out.none).mono ?_
  rintro e w5 hp
  obtain ⟨A5, c5, rfl, bs5, k5⟩ := HB4.out.num hp
  rw [be_len] at bs5 ⊢
  have HB5 := Lib.hid bs5
  have HX5 := Lib.hid (HX4.out.go k5)
  clear hp bs5 k5
  refine hK.out _ _ ?_ ?_
  · exact HX5.out.four
  (clear hHeld; intro hHeld; clear hK K; (try simp only [Act.put, List.setIfInBounds_toArray, List.set_cons_zero, List.set_cons_succ]))
  (repeat (first | (refine wpTx_take (v := ?_) rfl (by assumption) ?_ (by rfl) ?_; rotate_left; (focus (intro w' hSw; (try dsimp only at hSw); go_simp; (try with_reducible rfl); done)); simp only [Act.put, List.setIfInBounds_toArray, List.set_cons_zero, List.set_cons_succ]) | (refine wpTx_skip rfl (by assumption) (by rfl) ?_; simp only [Act.put, List.setIfInBounds_toArray, List.set_cons_zero, List.set_cons_succ])))
  refine wpTx_last rfl (fun K hK => ?_)
  go_simp
  refine hK.out _ _ (NoPanic.normal ?_); clear hK K; (try simp only [Act.put, List.setIfInBounds_toArray, List.set_cons_zero, List.set_cons_succ])
  have hb1 := HB5.out
  rw [head4 o na nf np nc La.out Lf.out Lp.out Lc.out] at hb1
  have HB1 := Lib.hid hb1
  clear hb1 HB0 HX0 HB2 HX2 HB3 HX3 HB4 HX4
  go_wp2_with fail
  -- the atoms
  go_loopw [5, 6] (fun s i wr => ∃ k : Nat, k ≤ na ∧ i = .int .i64 k ∧ ∃ A n c, s = .slice A n c ∧ n ≤ 13 + 33 * k ∧ RefBuf w wr A n c (headB o ++ (o.atoms.take k).flatMap nameB) ∧ BoxSt w wr w.heap.size 38 #[.slice Aa na ca, .slice Af nf cf, .slice Ap np cp, .slice Ac nc cc]) (fun _ i _ => na - (intOf i).toNat)
  case atStart => exact ⟨0, Nat.zero_le _, rfl, _, _, c5, rfl, by omega, by simpa using HB1.out, HX5.out⟩
  case round =>
    clear HB1 HX5
    obtain ⟨k, hk, rfl, A, n, c, rfl, hn, bs, bb⟩ := hrel
    have HBs := Lib.hid bs
    have HBb := Lib.hid bb
    obtain ⟨p0, p1, p2, p3⟩ := bb.four
    clear bs
    by_cases hlt : k < na
    · obtain ⟨x, hx⟩ := at_of La.out hlt
      obtain ⟨b, off, hA, hb2, hc⟩ := (H.out.atoms).field strE_len hx (by omega)
      subst hA
      have HX := Lib.hid hx
      have q0 : wr.cell? ⟨b, off + k * 1, none⟩ = some _ := (HBs.out.keep.cell0 hb2).trans (hc 0 _ rfl)
      rw [Nat.mul_one] at q0
      have hsz := HR.out.1 x (List.mem_of_getElem? hx)
      have b0 : (0 : Int) ≤ (k : Int) := Int.natCast_nonneg _
      have b1 : (k : Int) < (na : Int) := by omega
      clear hx hc bb
      go_wp2_with fail
      refine (refPutName_any A n c x _ _ HBs.out.len (by omega) (by omega) HBs.out.rd HBs.out.none).mono ?_
      rintro e w2 hp
      obtain ⟨A2, c2, rfl, bs2, k2⟩ := HBs.out.num hp
      rw [nameB_len] at bs2 ⊢
      have HBs2 := Lib.hid bs2
      have HK2 := Lib.hid k2
      clear hp bs2 k2
      go_wp2_with fail
      go_roundw
      case rel =>
        refine ⟨k + 1, by omega, by go_num, A2, n + (1 + x.size), c2, rfl, by omega, ?_, HBb.out.go HK2.out⟩
        rw [flat_take HX.out, ← List.append_assoc]
        exact HBs2.out
      case measure => simp [intOf]; omega
    · obtain rfl : na = k := by omega
      have hb1 := HBs.out
      rw [flat_all La.out] at hb1
      have HB1 := Lib.hid hb1
      clear hb1 HBs hlt hk bb
      go_wp2_with fail
      -- the names with terms
      go_loopw [5, 7] (fun s i wr => ∃ k : Nat, k ≤ nf ∧ i = .int .i64 k ∧ ∃ A n c, s = .slice A n c ∧ n ≤ 3000000 + 34 * k ∧ RefBuf w wr A n c ((headB o ++ o.atoms.flatMap nameB) ++ (o.funs.take k).flatMap funB) ∧ BoxSt w wr w.heap.size 38 #[.slice Aa na ca, .slice Af nf cf, .slice Ap np cp, .slice Ac nc cc]) (fun _ i _ => nf - (intOf i).toNat)
      case atStart => exact ⟨0, Nat.zero_le _, rfl, A, n, c, rfl, by omega, by simpa using HB1.out, HBb.out⟩
      case round =>
        clear HB1 HBb p0 p1 p2 p3
        obtain ⟨k, hk, rfl, A, n, c, rfl, hn, bs, bb⟩ := hrel
        have HBs := Lib.hid bs
        have HBb := Lib.hid bb
        obtain ⟨p0, p1, p2, p3⟩ := bb.four
        clear bs
        by_cases hlt : k < nf
        · obtain ⟨x, hx⟩ := at_of Lf.out hlt
          obtain ⟨b, off, hA, hb2, hc⟩ := (H.out.funs).field funE_len hx (by omega)
          subst hA
          have HX := Lib.hid hx
          obtain ⟨hsz, ha0, ha8⟩ := HR.out.2.1 x (List.mem_of_getElem? hx)
          obtain ⟨v, hv⟩ := Int.eq_ofNat_of_zero_le ha0
          have q0 : wr.cell? ⟨b, off + k * 2, none⟩ = some (.string x.name) := (HBs.out.keep.cell0 hb2).trans (hc 0 _ rfl)
          have q1 : wr.cell? ⟨b, off + k * 2 + 1, none⟩ = some (.int .i64 x.arity) := (HBs.out.keep.cell0 hb2).trans (hc 1 _ rfl)
          rw [hv] at q1 ha8
          have HE : Hid (funB x = nameB x.name ++ be 1 v) := by show _ = _; rw [funB, hv]; rfl
          have b0 : (0 : Int) ≤ (k : Int) := Int.natCast_nonneg _
          have b1 : (k : Int) < (nf : Int) := by omega
          have hbr : b < wr.heap.size := Nat.lt_of_lt_of_le hb2 HBs.out.keep.size
          have HB3 := Lib.hid (HBs.out.go ((Keeps.refl wr []).drew))
          have HX3 := Lib.hid (HBb.out.go ((Keeps.refl wr []).drew))
          clear hx hc bb hv ha0
          go_wp2_with fail
          refine wp_region_tx (fun W' => W'.cell? ⟨w.heap.size, 1, none⟩ = some (.slice (some ⟨b, off, none⟩) nf cf) ∧ W'.cell? ⟨b, off + k * 2, none⟩ = some (.string x.name) ∧ W'.cell? ⟨b, off + k * 2 + 1, none⟩ = some (.int .i64 v)) [(0, true), (1, true), (2, true), (3, true), (4, true), (5, true), (6, true), (8, true), (9, true), (10, true), (11, true), (12, true), (13, true), (7, false), (14, false), (15, false)] (by kernel_rfl) (by kernel_rfl) (by exact ⟨p1, q0, q1⟩) (fun hHeld => ?_)
          (repeat (first | (refine wpTx_take (v := ?_) rfl (by assumption) ?_ (by rfl) ?_; rotate_left; (focus (intro w' hSw; (try dsimp only at hSw); go_simp; (try with_reducible rfl); done)); simp only [Act.put, List.setIfInBounds_toArray, List.set_cons_zero, List.set_cons_succ]) | (refine wpTx_skip rfl (by assumption) (by rfl) ?_; simp only [Act.put, List.setIfInBounds_toArray, List.set_cons_zero, List.set_cons_succ])))
          refine wpTx_go rfl (fun K hK => ?_)
          go_simp
          refine (refPutName_any A n c x.name _ _ HB3.out.len (by omega) (by omega) HB3.out.rd HB3.out.none).mono ?_
          rintro e w2 hp
          obtain ⟨A2, c2, rfl, bs2, k2⟩ := HB3.out.num hp
          rw [nameB_len] at bs2 ⊢
          have HBs2 := Lib.hid bs2
          have HX4 := Lib.hid (HX3.out.go k2)
          have HK2 := Lib.hid k2
          clear hp bs2 k2
          refine hK.out _ _ ?_ ?_
          · exact ⟨HX4.out.four.2.1, (HK2.out.cell0 hbr).trans q0, (HK2.out.cell0 hbr).trans q1⟩
          (clear hHeld; intro hHeld; clear hK K; (try simp only [Act.put, List.setIfInBounds_toArray, List.set_cons_zero, List.set_cons_succ]))
          (repeat (first | (refine wpTx_take (v := ?_) rfl (by assumption) ?_ (by rfl) ?_; rotate_left; (focus (intro w' hSw; (try dsimp only at hSw); go_simp; (try with_reducible rfl); done)); simp only [Act.put, List.setIfInBounds_toArray, List.set_cons_zero, List.set_cons_succ]) | (refine wpTx_skip rfl (by assumption) (by rfl) ?_; simp only [Act.put, List.setIfInBounds_toArray, List.set_cons_zero, List.set_cons_succ])))
          refine wpTx_go rfl (fun K hK => ?_)
          go_simp
          refine (num_any 0 A2 (n + (1 + x.name.size)) c2 v v 1 _ _ (by omega) rfl rfl (by omega) HBs2.out.len (by omega) HBs2.out.rd HBs2.out.none).mono ?_
          rintro e w3 hp
          obtain ⟨A3, c3, rfl, bs3, k3⟩ := HBs2.out.num hp
          rw [be_len] at bs3 ⊢
          have HBs3 := Lib.hid bs3
          have HX5 := Lib.hid (HX4.out.go k3)
          have HK3 := Lib.hid (HK2.out.trans k3)
          clear hp bs3 k3
          refine hK.out _ _ ?_ ?_
          · exact ⟨HX5.out.four.2.1, (HK3.out.cell0 hbr).trans q0, (HK3.out.cell0 hbr).trans q1⟩
          (clear hHeld; intro hHeld; clear hK K; (try simp only [Act.put, List.setIfInBounds_toArray, List.set_cons_zero, List.set_cons_succ]))
          (repeat (first | (refine wpTx_take (v := ?_) rfl (by assumption) ?_ (by rfl) ?_; rotate_left; (focus (intro w' hSw; (try dsimp only at hSw); go_simp; (try with_reducible rfl); done)); simp only [Act.put, List.setIfInBounds_toArray, List.set_cons_zero, List.set_cons_succ]) | (refine wpTx_skip rfl (by assumption) (by rfl) ?_; simp only [Act.put, List.setIfInBounds_toArray, List.set_cons_zero, List.set_cons_succ])))
          refine wpTx_last rfl (fun K hK => ?_)
          go_simp
          refine hK.out _ _ (NoPanic.normal ?_); clear hK K; (try simp only [Act.put, List.setIfInBounds_toArray, List.set_cons_zero, List.set_cons_succ])
          go_wp2_with fail
          go_roundw
          case rel =>
            refine ⟨k + 1, by omega, by go_num, A3, n + (1 + x.name.size) + 1, c3, rfl, by omega, ?_, HX5.out⟩
            rw [flat_take HX.out, HE.out, ← List.append_assoc, ← List.append_assoc]
            exact HBs3.out
          case measure => simp [intOf]; omega
        · obtain rfl : nf = k := by omega
          have hb1 := HBs.out
          rw [flat_all Lf.out] at hb1
          have HB1 := Lib.hid hb1
          clear hb1 HBs hlt hk bb
          go_wp2_with fail
          -- the predicates
          go_loopw [5, 8] (fun s i wr => ∃ k : Nat, k ≤ np ∧ i = .int .i64 k ∧ ∃ A n c, s = .slice A n c ∧ n ≤ 6000000 + 36 * k ∧ RefBuf w wr A n c (((headB o ++ o.atoms.flatMap nameB) ++ o.funs.flatMap funB) ++ (o.preds.take k).flatMap predB) ∧ BoxSt w wr w.heap.size 38 #[.slice Aa na ca, .slice Af nf cf, .slice Ap np cp, .slice Ac nc cc]) (fun _ i _ => np - (intOf i).toNat)
          case atStart => exact ⟨0, Nat.zero_le _, rfl, A, n, c, rfl, by omega, by simpa using HB1.out, HBb.out⟩
          case round =>
            clear HB1 HBb p0 p1 p2 p3
            obtain ⟨k, hk, rfl, A, n, c, rfl, hn, bs, bb⟩ := hrel
            have HBs := Lib.hid bs
            have HBb := Lib.hid bb
            obtain ⟨p0, p1, p2, p3⟩ := bb.four
            clear bs
            by_cases hlt : k < np
            · obtain ⟨x, hx⟩ := at_of Lp.out hlt
              obtain ⟨b, off, hA, hb2, hc⟩ := (H.out.preds).field predE_len hx (by omega)
              subst hA
              have HX := Lib.hid hx
              obtain ⟨hsz, ha0, ha8, he0, he1⟩ := HR.out.2.2.1 x (List.mem_of_getElem? hx)
              obtain ⟨v, hv⟩ := Int.eq_ofNat_of_zero_le ha0
              obtain ⟨u, hu⟩ := Int.eq_ofNat_of_zero_le he0
              have q0 : wr.cell? ⟨b, off + k * 3, none⟩ = some (.string x.name) := (HBs.out.keep.cell0 hb2).trans (hc 0 _ rfl)
              have q1 : wr.cell? ⟨b, off + k * 3 + 1, none⟩ = some (.int .i64 x.arity) := (HBs.out.keep.cell0 hb2).trans (hc 1 _ rfl)
              have q2 : wr.cell? ⟨b, off + k * 3 + 2, none⟩ = some (.int .i64 x.entry) := (HBs.out.keep.cell0 hb2).trans (hc 2 _ rfl)
              rw [hv] at q1 ha8
              rw [hu] at q2 he1
              have HE : Hid (predB x = nameB x.name ++ (be 1 v ++ be 2 u)) := by show _ = _; rw [predB, hv, hu]; rfl
              have b0 : (0 : Int) ≤ (k : Int) := Int.natCast_nonneg _
              have b1 : (k : Int) < (np : Int) := by omega
              have hbr : b < wr.heap.size := Nat.lt_of_lt_of_le hb2 HBs.out.keep.size
              have HB3 := Lib.hid (HBs.out.go ((Keeps.refl wr []).drew))
              have HX3 := Lib.hid (HBb.out.go ((Keeps.refl wr []).drew))
              clear hx hc bb hv ha0 hu he0
              go_wp2_with fail
              refine wp_region_tx (fun W' => W'.cell? ⟨w.heap.size, 2, none⟩ = some (.slice (some ⟨b, off, none⟩) np cp) ∧ W'.cell? ⟨b, off + k * 3, none⟩ = some (.string x.name) ∧ W'.cell? ⟨b, off + k * 3 + 1, none⟩ = some (.int .i64 v) ∧ W'.cell? ⟨b, off + k * 3 + 2, none⟩ = some (.int .i64 u)) [(0, true), (1, true), (2, true), (3, true), (4, true), (5, true), (6, true), (8, true), (9, true), (10, true), (11, true), (12, true), (13, true), (15, true), (16, true), (17, true), (18, true), (19, true), (20, true), (7, false), (14, false), (21, false), (22, false)] (by kernel_rfl) (by kernel_rfl) (by exact ⟨p2, q0, q1, q2⟩) (fun hHeld => ?_)
              (repeat (first | (refine wpTx_take (v := ?_) rfl (by assumption) ?_ (by rfl) ?_; rotate_left; (focus (intro w' hSw; (try dsimp only at hSw); go_simp; (try with_reducible rfl); done)); simp only [Act.put, List.setIfInBounds_toArray, List.set_cons_zero, List.set_cons_succ]) | (refine wpTx_skip rfl (by assumption) (by rfl) ?_; simp only [Act.put, List.setIfInBounds_toArray, List.set_cons_zero, List.set_cons_succ])))
              refine wpTx_go rfl (fun K hK => ?_)
              go_simp
              refine (refPutName_any A n c x.name _ _ HB3.out.len (by omega) (by omega) HB3.out.rd HB3.out.none).mono ?_
              rintro e w2 hp
              obtain ⟨A2, c2, rfl, bs2, k2⟩ := HB3.out.num hp
              rw [nameB_len] at bs2 ⊢
              have HBs2 := Lib.hid bs2
              have HX4 := Lib.hid (HX3.out.go k2)
              have HK2 := Lib.hid k2
              clear hp bs2 k2
              refine hK.out _ _ ?_ ?_
              · exact ⟨HX4.out.four.2.2.1, (HK2.out.cell0 hbr).trans q0, (HK2.out.cell0 hbr).trans q1, (HK2.out.cell0 hbr).trans q2⟩
              (clear hHeld; intro hHeld; clear hK K; (try simp only [Act.put, List.setIfInBounds_toArray, List.set_cons_zero, List.set_cons_succ]))
              (repeat (first | (refine wpTx_take (v := ?_) rfl (by assumption) ?_ (by rfl) ?_; rotate_left; (focus (intro w' hSw; (try dsimp only at hSw); go_simp; (try with_reducible rfl); done)); simp only [Act.put, List.setIfInBounds_toArray, List.set_cons_zero, List.set_cons_succ]) | (refine wpTx_skip rfl (by assumption) (by rfl) ?_; simp only [Act.put, List.setIfInBounds_toArray, List.set_cons_zero, List.set_cons_succ])))
              refine wpTx_go rfl (fun K hK => ?_)
              go_simp
              refine (num_any 0 A2 (n + (1 + x.name.size)) c2 v v 1 _ _ (by omega) rfl rfl (by omega) HBs2.out.len (by omega) HBs2.out.rd HBs2.out.none).mono ?_
              rintro e w3 hp
              obtain ⟨A3, c3, rfl, bs3, k3⟩ := HBs2.out.num hp
              rw [be_len] at bs3 ⊢
              have HBs3 := Lib.hid bs3
              have HX5 := Lib.hid (HX4.out.go k3)
              have HK3 := Lib.hid (HK2.out.trans k3)
              clear hp bs3 k3
              refine hK.out _ _ ?_ ?_
              · exact ⟨HX5.out.four.2.2.1, (HK3.out.cell0 hbr).trans q0, (HK3.out.cell0 hbr).trans q1, (HK3.out.cell0 hbr).trans q2⟩
              (clear hHeld; intro hHeld; clear hK K; (try simp only [Act.put, List.setIfInBounds_toArray, List.set_cons_zero, List.set_cons_succ]))
              (repeat (first | (refine wpTx_take (v := ?_) rfl (by assumption) ?_ (by rfl) ?_; rotate_left; (focus (intro w' hSw; (try dsimp only at hSw); go_simp; (try with_reducible rfl); done)); simp only [Act.put, List.setIfInBounds_toArray, List.set_cons_zero, List.set_cons_succ]) | (refine wpTx_skip rfl (by assumption) (by rfl) ?_; simp only [Act.put, List.setIfInBounds_toArray, List.set_cons_zero, List.set_cons_succ])))
              refine wpTx_go rfl (fun K hK => ?_)
              go_simp
              refine (num_any 1 A3 (n + (1 + x.name.size) + 1) c3 u u 2 _ _ (by omega) rfl rfl (by omega) HBs3.out.len (by omega) HBs3.out.rd HBs3.out.none).mono ?_
              rintro e w4 hp
              obtain ⟨A4, c4, rfl, bs4, k4⟩ := HBs3.out.num hp
              rw [be_len] at bs4 ⊢
              have HBs4 := Lib.hid bs4
              have HX6 := Lib.hid (HX5.out.go k4)
              have HK4 := Lib.hid (HK3.out.trans k4)
              clear hp bs4 k4
              refine hK.out _ _ ?_ ?_
              · exact ⟨HX6.out.four.2.2.1, (HK4.out.cell0 hbr).trans q0, (HK4.out.cell0 hbr).trans q1, (HK4.out.cell0 hbr).trans q2⟩
              (clear hHeld; intro hHeld; clear hK K; (try simp only [Act.put, List.setIfInBounds_toArray, List.set_cons_zero, List.set_cons_succ]))
              (repeat (first | (refine wpTx_take (v := ?_) rfl (by assumption) ?_ (by rfl) ?_; rotate_left; (focus (intro w' hSw; (try dsimp only at hSw); go_simp; (try with_reducible rfl); done)); simp only [Act.put, List.setIfInBounds_toArray, List.set_cons_zero, List.set_cons_succ]) | (refine wpTx_skip rfl (by assumption) (by rfl) ?_; simp only [Act.put, List.setIfInBounds_toArray, List.set_cons_zero, List.set_cons_succ])))
              refine wpTx_last rfl (fun K hK => ?_)
              go_simp
              refine hK.out _ _ (NoPanic.normal ?_); clear hK K; (try simp only [Act.put, List.setIfInBounds_toArray, List.set_cons_zero, List.set_cons_succ])
              go_wp2_with fail
              go_roundw
              case rel =>
                refine ⟨k + 1, by omega, by go_num, A4, n + (1 + x.name.size) + 1 + 2, c4, rfl, by omega, ?_, HX6.out⟩
                have := HBs4.out
                rw [flat_take HX.out, HE.out]
                simpa only [List.append_assoc] using this
              case measure => simp [intOf]; omega
            · obtain rfl : np = k := by omega
              have hb1 := HBs.out
              rw [flat_all Lp.out] at hb1
              have HB1 := Lib.hid hb1
              clear hb1 HBs hlt hk bb
              go_wp2_with fail
              -- the code
              go_loopw [5, 9, 10, 11, 12, 13] (fun s i v10 v11 v12 v13 wr => ∃ k : Nat, k ≤ nc ∧ i = .int .i64 k ∧ ∃ A n c, s = .slice A n c ∧ n ≤ 9000000 + 9 * k ∧ RefBuf w wr A n c ((((headB o ++ o.atoms.flatMap nameB) ++ o.funs.flatMap funB) ++ o.preds.flatMap predB) ++ (o.code.take k).flatMap insB) ∧ BoxSt w wr w.heap.size 38 #[.slice Aa na ca, .slice Af nf cf, .slice Ap np cp, .slice Ac nc cc]) (fun _ i _ _ _ _ _ => nc - (intOf i).toNat)
              case atStart => exact ⟨0, Nat.zero_le _, rfl, A, n, c, rfl, by omega, by simpa using HB1.out, HBb.out⟩
              case round =>
                clear HB1 HBb p0 p1 p2 p3
                obtain ⟨wo, rfl⟩ : ∃ wo : World, wo = wr := ⟨_, rfl⟩
                obtain ⟨k, hk, rfl, A, n, c, rfl, hn, bs, bb⟩ := hrel
                have HBs := Lib.hid bs
                have HBb := Lib.hid bb
                have p3 := bb.four.2.2.2
                clear bs bb
                by_cases hlt : k < nc
                · obtain ⟨x, hx⟩ := at_of Lc.out hlt
                  obtain ⟨b, off, hA, hb2, hc⟩ := (H.out.code).field insE_len hx (by omega)
                  subst hA
                  have HX := Lib.hid hx
                  obtain ⟨ho0, ho1, hargs⟩ := HR.out.2.2.2 x (List.mem_of_getElem? hx)
                  have HArgs := Lib.hid hargs
                  obtain ⟨v, hv⟩ := Int.eq_ofNat_of_zero_le ho0
                  have q0 : wo.cell? ⟨b, off + k * 5, none⟩ = some (.int .i64 x.op) := (HBs.out.keep.cell0 hb2).trans (hc 0 _ rfl)
                  have q1 : wo.cell? ⟨b, off + k * 5 + 1, none⟩ = some _ := (HBs.out.keep.cell0 hb2).trans (hc 1 _ rfl)
                  have q2 : wo.cell? ⟨b, off + k * 5 + 2, none⟩ = some _ := (HBs.out.keep.cell0 hb2).trans (hc 2 _ rfl)
                  have q3 : wo.cell? ⟨b, off + k * 5 + 3, none⟩ = some _ := (HBs.out.keep.cell0 hb2).trans (hc 3 _ rfl)
                  have q4 : wo.cell? ⟨b, off + k * 5 + 4, none⟩ = some _ := (HBs.out.keep.cell0 hb2).trans (hc 4 _ rfl)
                  have HV := Lib.hid hv
                  have HE : Hid (insB x = be 1 v ++ (List.range (kindsOf x.op).length).flatMap (argB x)) := by show _ = _; rw [insB]; congr 2; rw [hv]; rfl
                  have b0 : (0 : Int) ≤ (k : Int) := Int.natCast_nonneg _
                  have b1 : (k : Int) < (nc : Int) := by omega
                  have hv26 : v ≤ 26 := by omega
                  clear hx hc hargs hv
                  rw [HV.out] at q0
                  have HS3 := Lib.hid (HBs.out.go ((Keeps.refl wo []).alloc (.cells #[.int .i64 v, .int .i64 x.a0, .int .i64 x.a1, .int .i64 x.a2, .int .i64 x.a3] 110)))
                  have HO3 := Lib.hid (HBb.out.go ((Keeps.refl wo []).alloc (.cells #[.int .i64 v, .int .i64 x.a0, .int .i64 x.a1, .int .i64 x.a2, .int .i64 x.a3] 110)))
                  have HX3 := Lib.hid (Blk.new wo 110 #[.int .i64 v, .int .i64 x.a0, .int .i64 x.a1, .int .i64 x.a2, .int .i64 x.a3])
                  go_wp2_with fail
                  refine (num_any 0 A n c v v 1 _ _ (by omega) rfl rfl (by omega) HS3.out.len (by omega) HS3.out.rd HS3.out.none).mono ?_
                  rintro e w2 hp
                  obtain ⟨A2, c2, rfl, bs2, k2⟩ := HS3.out.num hp
                  rw [be_len] at bs2 ⊢
                  have HBs2 := Lib.hid bs2
                  have HX4 := Lib.hid (HX3.out.keep k2 (by simp))
                  have HO4 := Lib.hid (HO3.out.go k2)
                  have z0 := HX4.out.cell 0
                  clear hp bs2 k2 q0 q1 q2 q3 q4
                  go_wp2_with fail
                  rw [← HV.out]
                  refine (refKinds_any x.op _).mono ?_
                  rintro e w3 ⟨A5, c5, rfl, hN, k3⟩
                  have HBs3 := Lib.hid (HBs2.out.go k3)
                  have HX5 := Lib.hid (HX4.out.keep k3 (by simp))
                  have HO5 := Lib.hid (HO4.out.go k3)
                  have HN := Lib.hid hN
                  have hfew := kinds_few x.op
                  clear z0 k3 hN
                  obtain ⟨m, hm⟩ : ∃ m, (kindsOf x.op).length = m := ⟨_, rfl⟩
                  rw [hm] at hfew ⊢
                  have HM := Lib.hid hm
                  clear hm
                  go_wp2_with fail
                  go_loopw [5, 12, 13] (fun s i v13 wr => ∃ j : Nat, j ≤ m ∧ i = .int .i64 j ∧ ∃ A n2 c, s = .slice A n2 c ∧ n2 ≤ n + 1 + 2 * j ∧ RefBuf w wr A n2 c (((((headB o ++ o.atoms.flatMap nameB) ++ o.funs.flatMap funB) ++ o.preds.flatMap predB) ++ (o.code.take k).flatMap insB) ++ be 1 v ++ (List.range j).flatMap (argB x)) ∧ Keeps w3 wr []) (fun _ i _ _ => m - (intOf i).toNat)
                  case atStart => exact ⟨0, Nat.zero_le _, rfl, A2, n + 1, c2, rfl, by omega, by simpa using HBs3.out, Keeps.refl _ _⟩
                  case round =>
                    clear HBs3 HBs2 HS3
                    obtain ⟨j, hj, rfl, A6, n6, c6, rfl, hn6, bs, kr⟩ := hrel
                    have HBs6 := Lib.hid bs
                    have HKR := Lib.hid kr
                    clear bs kr p3
                    by_cases hlj : j < m
                    · obtain ⟨b7, off7, y, rfl, hb7, hc7, hy⟩ := HN.out j (by rw [HM.out]; exact hlj)
                      have hx1 := kinds_mem x.op y (List.mem_of_getElem? hy)
                      obtain ⟨q, rfl⟩ := Int.eq_ofNat_of_zero_le (show 0 ≤ y by omega)
                      have q1 := (HKR.out.cell0 hb7).trans hc7
                      have ha0 := HArgs.out j (by rw [HM.out]; exact hlj)
                      have ha1 := HTop.out x (List.mem_of_getElem? HX.out) j (by rw [HM.out]; exact hlj)
                      obtain ⟨u, hu⟩ := Int.eq_ofNat_of_zero_le ha0
                      rw [hu] at ha1
                      have HE2 : Hid (argB x j = be (szOf q) u) := by show _ = _; rw [argB, List.getD_eq_getElem?_getD, hy, hu]; rfl
                      have q6 : wr.cell? ⟨wo.heap.size, 1 + j, none⟩ = some (.int .i64 u) := by rw [← hu]; exact ins_cell' (HX5.out.keep HKR.out (by simp)) j (by omega)
                      have b1' : (j : Int) < (m : Int) := by omega
                      have b0' : (0 : Int) ≤ (j : Int) := Int.natCast_nonneg _
                      have b4 : (j : Int) < 4 := by omega
                      clear hy ha0 hu hc7
                      by_cases h8 : q = 8
                      · have d8 : ((q : Int) == 8) = true := by simp; omega
                        have HE3 := HE2.out
                        rw [show szOf q = 2 by rw [szOf, if_pos (by omega)]] at HE3
                        have HE4 := Lib.hid HE3
                        clear h8 HE2 HE3
                        go_wp2_with fail
                        refine (num_any 1 A6 n6 c6 u u 2 _ _ (by omega) rfl rfl (by omega) HBs6.out.len (by omega) HBs6.out.rd HBs6.out.none).mono ?_
                        rintro e w8 hp
                        obtain ⟨A8, c8, rfl, bs8, k8⟩ := HBs6.out.num hp
                        rw [be_len] at bs8 ⊢
                        have HBs8 := Lib.hid bs8
                        have HK8 := Lib.hid k8
                        clear hp bs8 k8 q1 q6
                        go_wp2_with fail
                        go_roundw
                        case rel =>
                          refine ⟨j + 1, by omega, by go_num, A8, n6 + 2, c8, rfl, by omega, ?_, HKR.out.trans HK8.out⟩
                          rw [List.range_succ, List.flatMap_append, List.flatMap_singleton, HE4.out, ← List.append_assoc]
                          exact HBs8.out
                        case measure => simp [intOf]; omega
                      · have d8 : ((q : Int) == 8) = false := by simp; omega
                        have HE3 := HE2.out
                        rw [show szOf q = 1 by rw [szOf, if_neg (by omega)]] at HE3
                        have HE4 := Lib.hid HE3
                        clear h8 HE2 HE3
                        go_wp2_with fail
                        refine (num_any 0 A6 n6 c6 u u 1 _ _ (by omega) rfl rfl (by omega) HBs6.out.len (by omega) HBs6.out.rd HBs6.out.none).mono ?_
                        rintro e w8 hp
                        obtain ⟨A8, c8, rfl, bs8, k8⟩ := HBs6.out.num hp
                        rw [be_len] at bs8 ⊢
                        have HBs8 := Lib.hid bs8
                        have HK8 := Lib.hid k8
                        clear hp bs8 k8 q1 q6
                        go_wp2_with fail
                        go_roundw
                        case rel =>
                          refine ⟨j + 1, by omega, by go_num, A8, n6 + 1, c8, rfl, by omega, ?_, HKR.out.trans HK8.out⟩
                          rw [List.range_succ, List.flatMap_append, List.flatMap_singleton, HE4.out, ← List.append_assoc]
                          exact HBs8.out
                        case measure => simp [intOf]; omega
                    · obtain rfl : m = j := by omega
                      have hb1 := HBs6.out
                      have HL : Hid ((o.code.take (k + 1)).flatMap insB = (o.code.take k).flatMap insB ++ (be 1 v ++ (List.range m).flatMap (argB x))) := by show _ = _; rw [flat_take HX.out, HE.out, HM.out]
                      rw [List.append_assoc, List.append_assoc _ _ (be 1 v ++ _), ← HL.out] at hb1
                      have HB1 := Lib.hid hb1
                      clear hb1
                      go_wp2_with fail
                      go_roundw
                      case rel => exact ⟨k + 1, by omega, by go_num, A6, n6, c6, rfl, by omega, HB1.out, HO5.out.go HKR.out⟩
                      case measure => simp [intOf]; omega
                · obtain rfl : nc = k := by omega
                  have hb1 := HBs.out
                  rw [flat_all Lc.out, body_done o] at hb1
                  have HB1 := Lib.hid hb1
                  clear hb1 HBs hlt hk
                  obtain ⟨q, hq⟩ := Int.eq_ofNat_of_zero_le (Crc.int_bd (Crc.go 0#32 (bodyB o))).1
                  have hq2 := (Crc.int_bd (Crc.go 0#32 (bodyB o))).2
                  rw [hq] at hq2
                  have HSum : Hid (sumB (bodyB o) = be 4 q) := by show _ = _; rw [sumB, hq]; rfl
                  have hcrc := refSum_any A n c (bodyB o) _ wo HB1.out.len (by omega) HB1.out.nums (isByte_body o)
                  rw [hq] at hcrc
                  have HCrc := Lib.hid hcrc
                  clear hq hcrc
                  go_wp2_with (first
                    | (go_at_call 51; refine HCrc.out.mono ?_; rintro e w7 ⟨rfl, rfl⟩)
                    | (go_at_call 58; refine (num_any 3 A n c q q 4 _ _ (by omega) rfl rfl (by omega) HB1.out.len (by omega) HB1.out.rd HB1.out.none).mono ?_; rintro e w8 hp; obtain ⟨A8, c8, rfl, ho8, k8⟩ := HB1.out.done hp; have hl := ho8.1; rw [be_len] at ho8 hl ⊢; have HO8 := Lib.hid ho8; have HK8 := Lib.hid k8; clear hp ho8 k8))
                  go_ret2
                  refine HQ.out ?_ ?_ HK8.out
                  · rw [encB, HSum.out]
                    rw [u8s_len] at hl
                    show (bodyB o ++ be (3 + 1) q).length = _
                    omega
                  · rw [encB, HSum.out]
                    exact HO8.out
end Go.Proofs.Ytdcjiohbnnipdaa
