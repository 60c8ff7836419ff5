/- Fix, walked. -/
import Derived.Test.YtdcjiohbnnipdaaFixSt
import Derived.Test.YtdcjiohbnnipdaaOpG
import Derived.Test.YtdcjiohbnnipdaaReadOb
namespace Go.Proofs.Ytdcjiohbnnipdaa
open Go.RowKit
attribute [local irreducible] kindsOf nameOf bigB checkE

def zeroI : LIns := ⟨0, 0, 0, 0, 0⟩
theorem own_off {w W : World} {base n c sz g : Nat} {e t : TypeId} {A : Option Addr} {xs : List Value} {cs : Array Value} (ho : w.ownsRow base e sz (.slice A n c) n xs) (hb : Blk w g t cs) (hne : t ≠ e) (k : Keeps w W [g]) : Rd W A xs :=
  (Rd.of_own ho).keepOff k (fun a ha => by
    have h1 := own_outT ho hb hne
    unfold ownL at h1
    subst ha
    simp [Value.ownBlock] at h1
    simp
    exact fun e => h1 e.symm)
set_option maxRecDepth 100000 in
set_option maxHeartbeats 12800000 in
theorem fix_step (o : LObj) (Aa Af Ap Ac : Option Addr) (na nf np nc ca cf cp cc : Nat) (w : World) (h : ObIs w o Aa Af Ap Ac ca cf cp cc) (hg : GoodO o)
    (_la : o.atoms.length = na) (_lf : o.funs.length = nf) (lp : o.preds.length = np) (lc : o.code.length = nc)
    (hrec : np = 0 → ∀ (o' : LObj) (Ba Bf Bp Bc : Option Addr) (da df dp dc : Nat) (w' : World), ObIs w' o' Ba Bf Bp Bc da df dp dc → GoodO o' → 0 < o'.preds.length →
      Calls Try.prog 18 #[.agg #[.slice Ba o'.atoms.length da, .slice Bf o'.funs.length df, .slice Bp o'.preds.length dp, .slice Bc o'.code.length dc]] w' (FixDone w')) :
    Calls Try.prog 18 #[.agg #[.slice Aa na ca, .slice Af nf cf, .slice Ap np cp, .slice Ac nc cc]] w (FixDone w) := by
  have HPr := Lib.hid h.preds
  have HCo := Lib.hid h.code
  have HG := Lib.hid hg
  have Lp := Lib.hid lp
  have Lc := Lib.hid lc
  have HRec := Lib.hid hrec
  have HZp := Lib.hid h.zp
  have HZc := Lib.hid h.zc
  clear h hg _la _lf lp lc hrec
  have st0 : FxSt w ((((((w.alloc (.cells #[.slice Aa na ca, .slice Af nf cf, .slice Ap np cp, .slice Ac nc cc] 38)).alloc (.cells #[.slice none 0 0, .slice none 0 0, .slice none 0 0, .slice none 0 0] 38)).alloc
      (.cells #[.string ⟨#[97]⟩, .string ⟨#[98]⟩, .string ⟨#[99]⟩, .string ⟨#[100]⟩] 9)).alloc (.cells #[.string ⟨#[97]⟩, .string ⟨#[98]⟩, .string ⟨#[110, 105, 108]⟩] 9)).alloc (.cells #[.string ⟨#[102]⟩, .int .i64 1, .string ⟨#[103]⟩, .int .i64 2] 105)).alloc
      (.cells #[.slice (some ⟨w.heap.size + 1 + 1 + 1, 0, none⟩) 3 3, .slice (some ⟨w.heap.size + 1 + 1 + 1 + 1, 0, none⟩) 2 2, .slice none 0 0, .slice none 0 0] 38)) #[.slice Aa na ca, .slice Af nf cf, .slice Ap np cp, .slice Ac nc cc] none none 0 0 0 0 [] [] := by
    refine ⟨?_, ?_, ?_, ?_, ?_, ?_, World.ownsRow_nil _ _ _ _, World.ownsRow_nil _ _ _ _, ((((((Keeps.refl w []).alloc _).alloc _).alloc _).alloc _).alloc _).alloc _⟩
    · iterate 5 apply Blk.alloc
      exact Blk.new _ _ _
    · iterate 4 apply Blk.alloc
      exact Blk.atNew _ _ (by simp only [World.size_alloc])
    · iterate 3 apply Blk.alloc
      exact Blk.atNew _ _ (by simp only [World.size_alloc])
    · iterate 2 apply Blk.alloc
      exact Blk.atNew _ _ (by simp only [World.size_alloc])
    · iterate 1 apply Blk.alloc
      exact Blk.atNew _ _ (by simp only [World.size_alloc])
    · exact Blk.atNew _ _ (by simp only [World.size_alloc])
  have HST := Lib.hid st0
  clear st0
  go_enter Try.func18, Try.ntmps18
  go_upto_block 0 with fail
  go_cut [] (fun wx => ∃ n A c, n ≤ 30 ∧ n ≤ nc ∧ FxSt w wx #[.slice Aa na ca, .slice Af nf cf, .slice Ap np cp, .slice Ac nc cc] none A 0 n 0 c [] (List.replicate n zeroI))
  case first =>
    go_wp2_with fail
    go_loopw [5] (fun i wr => ∃ k : Nat, i = .int .i64 k ∧ k ≤ 30 ∧ k ≤ nc ∧ ∃ A c, FxSt w wr #[.slice Aa na ca, .slice Af nf cf, .slice Ap np cp, .slice Ac nc cc] none A 0 k 0 c [] (List.replicate k zeroI)) (fun i _ => 30 - (intOf i).toNat)
    case atStart => exact ⟨0, rfl, by omega, by omega, none, 0, HST.out⟩
    case round =>
      clear HST
      obtain ⟨k, rfl, hk30, hknc, A4, c4, hst⟩ := hrel
      have HS := Lib.hid hst
      have p3 := hst.box.cell 3
      clear hst
      by_cases hkn : k < nc
      · have d0 : decide ((k : Int) < (nc : Int)) = true := by simp only [decide_eq_true_eq]; omega
        by_cases hk : k < 30
        · have d1 : decide ((k : Int) < 30) = true := by simp only [decide_eq_true_eq]; omega
          obtain ⟨f0, f1⟩ := HS.out.see4 (Keeps.refl wr _)
          go_wp2_with (at_builtin; refine wpList_app _ el_rins rfl (.tmp 33) (.tmp 35) rfl w.heap.size A4 k c4 ((List.replicate k zeroI).flatMap insE) rfl (own_keep0 HS.out.r4 ((Keeps.refl wr []).alloc _)) (some ⟨wr.heap.size, 0, none⟩) 1 1 (insE zeroI) rfl (Rd.one wr _ (insE zeroI)) rfl (by simp) (by simp [insE, zeroI, Value.oneCell']) (by omega) (by simp; have := HS.out.keep.size; omega) ?_; intro A' c' w9 hown hgrow hat; have fs := HS.out.see4 (((Keeps.refl wr []).alloc (.cells (insE zeroI).toArray 110)).rest (Keeps.ofGrown hgrow)); have g0 := fs.1; have g1 := fs.2; clear fs f0 f1 p3)
          go_roundw
          case rel =>
            refine ⟨k + 1, by go_num, by omega, by omega, A', c', ?_⟩
            have h2 := HS.out.step4 ((Keeps.refl wr []).alloc (.cells (insE zeroI).toArray 110)) (x := zeroI) hown hgrow
            rwa [← List.replicate_succ'] at h2
          case measure => simp [intOf]; omega
        · have d1 : decide ((k : Int) < 30) = false := by simp only [decide_eq_false_iff_not]; omega
          go_wp2_with fail
          go_meet
          exact ⟨k, A4, c4, hk30, hknc, HS.out⟩
      · have d0 : decide ((k : Int) < (nc : Int)) = false := by simp only [decide_eq_false_iff_not]; omega
        go_wp2_with fail
        go_meet
        exact ⟨k, A4, c4, hk30, hknc, HS.out⟩
  case rest =>
  obtain ⟨n, A4, c4, hn30, hnc, hst⟩ := hcut
  clear HST
  have HST := Lib.hid hst
  have p4 := hst.out.cell 3
  clear hst
  go_upto_block 2 with fail
  clear p4
  go_cut [] (fun wx => ∃ k A3 c3 ps, k ≤ 4 ∧ (k = 0 → np = 0) ∧ PsOk n k ps ∧ FxSt w wx #[.slice Aa na ca, .slice Af nf cf, .slice Ap np cp, .slice Ac nc cc] A3 A4 k n c3 c4 ps (List.replicate n zeroI))
  case first =>
    go_wp2_with fail
    go_loopw [7] (fun i wr => ∃ k : Nat, i = .int .i64 k ∧ k ≤ 4 ∧ k ≤ np ∧ ∃ A3 c3 ps, PsOk n k ps ∧ FxSt w wr #[.slice Aa na ca, .slice Af nf cf, .slice Ap np cp, .slice Ac nc cc] A3 A4 k n c3 c4 ps (List.replicate n zeroI)) (fun i _ => 4 - (intOf i).toNat)
    case atStart => exact ⟨0, rfl, by omega, by omega, none, 0, [], PsOk.nil n, HST.out⟩
    case round =>
      clear HST
      obtain ⟨k, rfl, hk4, hknp, A3, c3, ps, hps, hst⟩ := hrel
      have HS := Lib.hid hst
      have HPs := Lib.hid hps
      have p2 := hst.box.cell 2
      clear hst hps
      by_cases hkn : k < np
      · have d0 : decide ((k : Int) < (np : Int)) = true := by simp only [decide_eq_true_eq]; omega
        by_cases hk : k < 4
        · have d1 : decide ((k : Int) < 4) = true := by simp only [decide_eq_true_eq]; omega
          obtain ⟨s, hs⟩ := at_of (l := lets) (n := 4) rfl hk
          have hs1 : s.size = 1 := by
            match k, hk with
            | 0, _ => injection hs with hs; subst hs; rfl
            | 1, _ => injection hs with hs; subst hs; rfl
            | 2, _ => injection hs with hs; subst hs; rfl
            | 3, _ => injection hs with hs; subst hs; rfl
          have ql : wr.cell? ⟨w.heap.size + 1 + 1, k, none⟩ = some (.string s) := by
            rw [HS.out.letr.cell k]
            match k, hk with
            | 0, _ => injection hs with hs; subst hs; rfl
            | 1, _ => injection hs with hs; subst hs; rfl
            | 2, _ => injection hs with hs; subst hs; rfl
            | 3, _ => injection hs with hs; subst hs; rfl
          have hadd : ∀ w, (Op.stringOp .add (⟨#[112]⟩ : ByteArray) s).run Try.prog w = .ok (.string (pOf s)) w := fun w => run_string_add_sum (P := Try.prog) w _ _ (by have : (⟨#[112]⟩ : ByteArray).size = 1 := rfl; omega)
          obtain ⟨x, hx⟩ := at_of Lp.out hkn
          obtain ⟨b, off, hA, hb, hc⟩ := (HPr.out).field predE_len hx (by omega)
          subst hA
          have q1 : wr.cell? ⟨b, off + k * 3 + 1, none⟩ = some (.int .i64 x.arity) := (HS.out.keep.cell0 hb).trans (hc 1 _ rfl)
          have q2 : wr.cell? ⟨b, off + k * 3 + 2, none⟩ = some (.int .i64 x.entry) := (HS.out.keep.cell0 hb).trans (hc 2 _ rfl)
          have hgx := HG.out.preds x (List.mem_of_getElem? hx)
          obtain ⟨U, hU⟩ : ∃ U, IntKind.u64.wrap x.arity = U := ⟨_, rfl⟩
          have hU0 : 0 ≤ U := by rw [← hU]; simp only [IntKind.wrap, IntKind.bits, IntKind.signed, Bool.false_and, Bool.false_eq_true, if_false]; omega
          obtain ⟨ar, har'⟩ : ∃ ar, U.tmod 4 = ar := ⟨_, rfl⟩
          have har : 0 ≤ ar ∧ ar < 4 := by rw [← har']; exact ⟨Int.tmod_nonneg _ hU0, Int.tmod_lt_of_pos _ (by omega)⟩
          have hwar : IntKind.i64.wrap ar = ar := by simp only [IntKind.wrap_i64]; omega
          have HSs := Lib.hid hs
          have HXx := Lib.hid hx
          clear hs hx hc
          have b0 : (0 : Int) ≤ (k : Int) := Int.natCast_nonneg _
          have b1 : (k : Int) < (np : Int) := by omega
          have b2 : (k : Int) < (4 : Int) := by omega
          go_wp2_with fail
          refine wp_region_tx (fun W' => W'.cell? ⟨w.heap.size + 1 + 1, k, none⟩ = some (.string s) ∧ W'.cell? ⟨w.heap.size, 2, none⟩ = some (.slice (some ⟨b, off, none⟩) np cp) ∧ W'.cell? ⟨b, off + k * 3 + 1, none⟩ = some (.int .i64 x.arity)) [(0, true), (1, true), (2, true), (3, true), (4, true), (5, true), (6, true), (7, true), (8, true), (9, true), (10, true), (11, true), (12, true), (13, true), (14, true), (15, false), (16, false)] (by kernel_rfl) (by kernel_rfl) (by exact ⟨ql, p2, q1⟩) (fun hHeld => ?_)
          (repeat (first | (refine wpTx_take (v := ?_) rfl (by assumption) ?_ (by rfl) ?_; rotate_left; (focus (intro w' hSw; (try dsimp only at hSw); go_simp; (try with_reducible rfl); done)); simp only [Act.put, List.setIfInBounds_toArray, List.set_cons_zero, List.set_cons_succ]) | (refine wpTx_skip rfl (by assumption) (by rfl) ?_; simp only [Act.put, List.setIfInBounds_toArray, List.set_cons_zero, List.set_cons_succ])))
          refine wpTx_go rfl (fun K hK => ?_)
          go_simp
          refine hK.out _ _ ?_ ?_
          · have k5 := (Keeps.refl wr []).drew.alloc (.cells #[.string ⟨#[]⟩, .int .i64 0, .int .i64 0] 107)
            have s5 := HS.out.go k5
            exact ⟨(k5.cell0 (World.block_lt_of_cell? wr _ ql)).trans ql, s5.box.cell 2, (k5.cell0 (World.block_lt_of_cell? wr _ q1)).trans q1⟩
          (clear hHeld; intro hHeld; clear hK K; (try simp only [Act.put, List.setIfInBounds_toArray, List.set_cons_zero, List.set_cons_succ]))
          refine wpTx_last rfl (fun K hK => ?_)
          go_simp
          refine hK.out _ _ (NoPanic.normal ?_); clear hK K; (try simp only [Act.put, List.setIfInBounds_toArray, List.set_cons_zero, List.set_cons_succ])
          have HS5 := Lib.hid (HS.out.go ((Keeps.refl wr []).alloc (.cells #[.string (pOf s), .int .i64 ar, .int .i64 65535] 107)).drew)
          have HB5 : Hid (Blk (wr.alloc (.cells #[.string (pOf s), .int .i64 ar, .int .i64 65535] 107)).drew wr.heap.size 107 #[.string (pOf s), .int .i64 ar, .int .i64 65535]) := Blk.new wr _ _
          have hpb : wr.heap.size ∉ ownL (.slice A3 k c3) ∧ wr.heap.size ∉ ownL (.slice A4 n c4) := by
            refine ⟨fun hm => ?_, fun hm => ?_⟩
            · unfold ownL at hm
              simp at hm
              have := (HS.out.r3.lt _ hm).2
              omega
            · unfold ownL at hm
              simp at hm
              have := (HS.out.r4.lt _ hm).2
              omega
          have hpb5 : w.heap.size + 1 + 1 + 1 + 1 + 1 < wr.heap.size := HS.out.out.lt
          have q0 := HS5.out.box.cell 2
          have q2' : World.cell? (wr.alloc (.cells #[.string (pOf s), .int .i64 ar, .int .i64 65535] 107)).drew ⟨b, off + k * 3 + 2, none⟩ = some (.int .i64 x.entry) := ((((Keeps.refl wr []).alloc (.cells #[.string (pOf s), .int .i64 ar, .int .i64 65535] 107)).drew).cell0 (World.block_lt_of_cell? wr _ q2)).trans q2
          have m2 := HB5.out.cell 2
          have m3 := HB5.out.frozen 2
          clear ql p2 q1 q2 hadd hs1 HS hHeld
          generalize wr.heap.size = pb at *
          generalize (wr.alloc (.cells #[.string (pOf s), .int .i64 ar, .int .i64 65535] 107)).drew = W5 at *
          by_cases hn0 : 0 < n
          case neg =>
            have t0 : decide (0 < (n : Int)) = false := by simp only [decide_eq_false_iff_not]; omega
            go_wp2_with fail
            have HS6 := HS5
            have HB6 := HB5
            clear q0 q2' m2 m3
            go_loopw [9] (fun i wr => ∃ j : Nat, j ≤ k ∧ i = .int .i64 j ∧ ∃ e : Int, (e = 65535 ∨ (0 ≤ e ∧ e < n)) ∧ (e ≠ 65535 → e ∉ entL (ps.take j)) ∧ Blk wr pb 107 #[.string (pOf s), .int .i64 ar, .int .i64 e] ∧ FxSt w wr #[.slice Aa na ca, .slice Af nf cf, .slice (some ⟨b, off, none⟩) np cp, .slice Ac nc cc] A3 A4 k n c3 c4 ps (List.replicate n zeroI)) (fun i _ => k - (intOf i).toNat)
            case atStart => exact ⟨0, by omega, rfl, 65535, .inl rfl, fun _ => by simp [entL], HB6.out, HS6.out⟩
            case round =>
              clear HS6 HB6
              obtain ⟨j, hj, rfl, e, he, hd, hbp, hst⟩ := hrel
              have HS7 := Lib.hid hst
              have HB7 := Lib.hid hbp
              have HD := Lib.hid hd
              have m2 := hbp.cell 2
              have m3 := hbp.frozen 2
              have m0 := hbp.cell 0
              have m1 := hbp.cell 1
              have o2 := hst.out.cell 2
              have of2 := hst.out.frozen 2
              clear hst hbp hd
              by_cases hjk : j < k
              · obtain ⟨y, hy⟩ := at_of HPs.out.len hjk
                obtain ⟨b3, off3, hA3, hb3, hc3⟩ := (Rd.of_own HS7.out.r3).field predE_len hy (by omega)
                have r2 : World.cell? _ ⟨b3, off3 + j * 3 + 2, none⟩ = some (.int .i64 y.entry) := hc3 2 _ rfl
                have HY := Lib.hid hy
                subst hA3
                clear hy hc3
                have b3' : (0 : Int) ≤ (j : Int) := Int.natCast_nonneg _
                have b4' : (j : Int) < (k : Int) := by omega
                by_cases hye : y.entry = e
                · have d7 : (y.entry == e) = true := by simpa using hye
                  go_wp2_with fail
                  refine wp_region_tx (fun W' => W'.cell? ⟨w.heap.size + 1 + 1 + 1 + 1 + 1, 2, none⟩ = some (.slice (some ⟨b3, off3, none⟩) k c3) ∧ W'.cell? ⟨b3, off3 + j * 3 + 2, none⟩ = some (.int .i64 y.entry) ∧ W'.cell? ⟨pb, 2, none⟩ = some (.int .i64 e)) [(0, true), (1, true), (2, true), (3, true), (4, true), (5, true), (6, true), (7, true), (8, false)] (by kernel_rfl) (by kernel_rfl) (by exact ⟨o2, r2, m2⟩) (fun hHeld => ?_)
                  (repeat (first | (refine wpTx_take (v := ?_) rfl (by assumption) ?_ (by rfl) ?_; rotate_left; (focus (intro w' hSw; (try dsimp only at hSw); go_simp; (try with_reducible rfl); done)); simp only [Act.put, List.setIfInBounds_toArray, List.set_cons_zero, List.set_cons_succ]) | (refine wpTx_skip rfl (by assumption) (by rfl) ?_; simp only [Act.put, List.setIfInBounds_toArray, List.set_cons_zero, List.set_cons_succ])))
                  refine wpTx_last rfl (fun K hK => ?_)
                  go_simp
                  refine hK.out _ _ (NoPanic.normal ?_); clear hK K; (try simp only [Act.put, List.setIfInBounds_toArray, List.set_cons_zero, List.set_cons_succ])
                  have kk := (Keeps.refl wr [pb]).drew.setCell (p := ⟨pb, 2, none⟩) (.inl (by simp)) (.int .i64 65535)
                  have HS8 := Lib.hid (HS7.out.past kk (fun q hq => by simp at hq; subst hq; exact ⟨hpb5, hpb⟩))
                  have HB8 := Lib.hid (HB7.out.drew.set_ 2 (.int .i64 65535))
                  clear m0 m1 o2 of2 r2 hHeld
                  go_wp2_with fail
                  go_roundw
                  case rel => exact ⟨j + 1, by omega, by go_num, 65535, .inl rfl, fun h => absurd rfl h, HB8.out, HS8.out⟩
                  case measure => simp [intOf]; omega
                · have d7 : (y.entry == e) = false := by simpa using hye
                  have HD2 := Lib.hid (fun h65 => entL_mem_step HY.out (HD.out h65) hye)
                  go_wp2_with fail
                  refine wp_region_tx (fun W' => W'.cell? ⟨w.heap.size + 1 + 1 + 1 + 1 + 1, 2, none⟩ = some (.slice (some ⟨b3, off3, none⟩) k c3) ∧ W'.cell? ⟨b3, off3 + j * 3 + 2, none⟩ = some (.int .i64 y.entry) ∧ W'.cell? ⟨pb, 2, none⟩ = some (.int .i64 e)) [(0, true), (1, true), (2, true), (3, true), (4, true), (5, true), (6, true), (7, true), (8, false)] (by kernel_rfl) (by kernel_rfl) (by exact ⟨o2, r2, m2⟩) (fun hHeld => ?_)
                  (repeat (first | (refine wpTx_take (v := ?_) rfl (by assumption) ?_ (by rfl) ?_; rotate_left; (focus (intro w' hSw; (try dsimp only at hSw); go_simp; (try with_reducible rfl); done)); simp only [Act.put, List.setIfInBounds_toArray, List.set_cons_zero, List.set_cons_succ]) | (refine wpTx_skip rfl (by assumption) (by rfl) ?_; simp only [Act.put, List.setIfInBounds_toArray, List.set_cons_zero, List.set_cons_succ])))
                  refine wpTx_last rfl (fun K hK => ?_)
                  go_simp
                  refine hK.out _ _ (NoPanic.normal ?_); clear hK K; (try simp only [Act.put, List.setIfInBounds_toArray, List.set_cons_zero, List.set_cons_succ])
                  have HS8 := Lib.hid (HS7.out.go (Keeps.refl wr []).drew)
                  have HB8 := Lib.hid HB7.out.drew
                  clear m2 m3 m0 m1 o2 of2 r2 hHeld
                  go_wp2_with fail
                  go_roundw
                  case rel => exact ⟨j + 1, by omega, by go_num, e, he, HD2.out, HB8.out, HS8.out⟩
                  case measure => simp [intOf]; omega
              · obtain rfl : k = j := by omega
                have HD2 : Hid (e ≠ 65535 → e ∉ entL ps) := by
                  have h2 := HD.out
                  rw [List.take_of_length_le (by have := HPs.out.len; omega)] at h2
                  exact h2
                go_wp2_with (at_builtin; refine wpList_app _ el_rpred rfl (.tmp 112) (.tmp 114) rfl w.heap.size A3 k c3 (ps.flatMap predE) rfl (own_keep0 HS7.out.r3 ((Keeps.refl wr []).alloc _)) (some ⟨wr.heap.size, 0, none⟩) 1 1 (predE ⟨pOf s, ar, e⟩) rfl (Rd.one wr _ (predE ⟨pOf s, ar, e⟩)) rfl (by simp) (by simp [predE, Value.oneCell']) (by omega) (by simp; have := HS7.out.keep.size; omega) ?_; intro A' c' w9 hown hgrow hat; have fs := HS7.out.see3 (((Keeps.refl wr []).alloc (.cells (predE ⟨pOf s, ar, e⟩).toArray 107)).rest (Keeps.ofGrown hgrow)); have g0 := fs.1; have g1 := fs.2; clear fs o2 of2 m0 m1 m2 m3)
                go_roundw
                case rel =>
                  exact ⟨k + 1, by go_num, by omega, by omega, A', c', _, HPs.out.step HSs.out ⟨har.1, by omega⟩ he HD2.out, HS7.out.step3 ((Keeps.refl wr []).alloc (.cells (predE ⟨pOf s, ar, e⟩).toArray 107)) (x := ⟨pOf s, ar, e⟩) hown hgrow⟩
                case measure => simp [intOf]; omega
          have t0 : decide (0 < (n : Int)) = true := by simp only [decide_eq_true_eq]; omega
          by_cases hx0 : 0 ≤ x.entry
          case neg =>
            have t1 : decide (0 ≤ x.entry) = false := by simpa using hx0
            go_wp2_with fail
            have HS6 := HS5
            have HB6 := HB5
            clear q0 q2' m2 m3
            go_loopw [9] (fun i wr => ∃ j : Nat, j ≤ k ∧ i = .int .i64 j ∧ ∃ e : Int, (e = 65535 ∨ (0 ≤ e ∧ e < n)) ∧ (e ≠ 65535 → e ∉ entL (ps.take j)) ∧ Blk wr pb 107 #[.string (pOf s), .int .i64 ar, .int .i64 e] ∧ FxSt w wr #[.slice Aa na ca, .slice Af nf cf, .slice (some ⟨b, off, none⟩) np cp, .slice Ac nc cc] A3 A4 k n c3 c4 ps (List.replicate n zeroI)) (fun i _ => k - (intOf i).toNat)
            case atStart => exact ⟨0, by omega, rfl, 65535, .inl rfl, fun _ => by simp [entL], HB6.out, HS6.out⟩
            case round =>
              clear HS6 HB6
              obtain ⟨j, hj, rfl, e, he, hd, hbp, hst⟩ := hrel
              have HS7 := Lib.hid hst
              have HB7 := Lib.hid hbp
              have HD := Lib.hid hd
              have m2 := hbp.cell 2
              have m3 := hbp.frozen 2
              have m0 := hbp.cell 0
              have m1 := hbp.cell 1
              have o2 := hst.out.cell 2
              have of2 := hst.out.frozen 2
              clear hst hbp hd
              by_cases hjk : j < k
              · obtain ⟨y, hy⟩ := at_of HPs.out.len hjk
                obtain ⟨b3, off3, hA3, hb3, hc3⟩ := (Rd.of_own HS7.out.r3).field predE_len hy (by omega)
                have r2 : World.cell? _ ⟨b3, off3 + j * 3 + 2, none⟩ = some (.int .i64 y.entry) := hc3 2 _ rfl
                have HY := Lib.hid hy
                subst hA3
                clear hy hc3
                have b3' : (0 : Int) ≤ (j : Int) := Int.natCast_nonneg _
                have b4' : (j : Int) < (k : Int) := by omega
                by_cases hye : y.entry = e
                · have d7 : (y.entry == e) = true := by simpa using hye
                  go_wp2_with fail
                  refine wp_region_tx (fun W' => W'.cell? ⟨w.heap.size + 1 + 1 + 1 + 1 + 1, 2, none⟩ = some (.slice (some ⟨b3, off3, none⟩) k c3) ∧ W'.cell? ⟨b3, off3 + j * 3 + 2, none⟩ = some (.int .i64 y.entry) ∧ W'.cell? ⟨pb, 2, none⟩ = some (.int .i64 e)) [(0, true), (1, true), (2, true), (3, true), (4, true), (5, true), (6, true), (7, true), (8, false)] (by kernel_rfl) (by kernel_rfl) (by exact ⟨o2, r2, m2⟩) (fun hHeld => ?_)
                  (repeat (first | (refine wpTx_take (v := ?_) rfl (by assumption) ?_ (by rfl) ?_; rotate_left; (focus (intro w' hSw; (try dsimp only at hSw); go_simp; (try with_reducible rfl); done)); simp only [Act.put, List.setIfInBounds_toArray, List.set_cons_zero, List.set_cons_succ]) | (refine wpTx_skip rfl (by assumption) (by rfl) ?_; simp only [Act.put, List.setIfInBounds_toArray, List.set_cons_zero, List.set_cons_succ])))
                  refine wpTx_last rfl (fun K hK => ?_)
                  go_simp
                  refine hK.out _ _ (NoPanic.normal ?_); clear hK K; (try simp only [Act.put, List.setIfInBounds_toArray, List.set_cons_zero, List.set_cons_succ])
                  have kk := (Keeps.refl wr [pb]).drew.setCell (p := ⟨pb, 2, none⟩) (.inl (by simp)) (.int .i64 65535)
                  have HS8 := Lib.hid (HS7.out.past kk (fun q hq => by simp at hq; subst hq; exact ⟨hpb5, hpb⟩))
                  have HB8 := Lib.hid (HB7.out.drew.set_ 2 (.int .i64 65535))
                  clear m0 m1 o2 of2 r2 hHeld
                  go_wp2_with fail
                  go_roundw
                  case rel => exact ⟨j + 1, by omega, by go_num, 65535, .inl rfl, fun h => absurd rfl h, HB8.out, HS8.out⟩
                  case measure => simp [intOf]; omega
                · have d7 : (y.entry == e) = false := by simpa using hye
                  have HD2 := Lib.hid (fun h65 => entL_mem_step HY.out (HD.out h65) hye)
                  go_wp2_with fail
                  refine wp_region_tx (fun W' => W'.cell? ⟨w.heap.size + 1 + 1 + 1 + 1 + 1, 2, none⟩ = some (.slice (some ⟨b3, off3, none⟩) k c3) ∧ W'.cell? ⟨b3, off3 + j * 3 + 2, none⟩ = some (.int .i64 y.entry) ∧ W'.cell? ⟨pb, 2, none⟩ = some (.int .i64 e)) [(0, true), (1, true), (2, true), (3, true), (4, true), (5, true), (6, true), (7, true), (8, false)] (by kernel_rfl) (by kernel_rfl) (by exact ⟨o2, r2, m2⟩) (fun hHeld => ?_)
                  (repeat (first | (refine wpTx_take (v := ?_) rfl (by assumption) ?_ (by rfl) ?_; rotate_left; (focus (intro w' hSw; (try dsimp only at hSw); go_simp; (try with_reducible rfl); done)); simp only [Act.put, List.setIfInBounds_toArray, List.set_cons_zero, List.set_cons_succ]) | (refine wpTx_skip rfl (by assumption) (by rfl) ?_; simp only [Act.put, List.setIfInBounds_toArray, List.set_cons_zero, List.set_cons_succ])))
                  refine wpTx_last rfl (fun K hK => ?_)
                  go_simp
                  refine hK.out _ _ (NoPanic.normal ?_); clear hK K; (try simp only [Act.put, List.setIfInBounds_toArray, List.set_cons_zero, List.set_cons_succ])
                  have HS8 := Lib.hid (HS7.out.go (Keeps.refl wr []).drew)
                  have HB8 := Lib.hid HB7.out.drew
                  clear m2 m3 m0 m1 o2 of2 r2 hHeld
                  go_wp2_with fail
                  go_roundw
                  case rel => exact ⟨j + 1, by omega, by go_num, e, he, HD2.out, HB8.out, HS8.out⟩
                  case measure => simp [intOf]; omega
              · obtain rfl : k = j := by omega
                have HD2 : Hid (e ≠ 65535 → e ∉ entL ps) := by
                  have h2 := HD.out
                  rw [List.take_of_length_le (by have := HPs.out.len; omega)] at h2
                  exact h2
                go_wp2_with (at_builtin; refine wpList_app _ el_rpred rfl (.tmp 112) (.tmp 114) rfl w.heap.size A3 k c3 (ps.flatMap predE) rfl (own_keep0 HS7.out.r3 ((Keeps.refl wr []).alloc _)) (some ⟨wr.heap.size, 0, none⟩) 1 1 (predE ⟨pOf s, ar, e⟩) rfl (Rd.one wr _ (predE ⟨pOf s, ar, e⟩)) rfl (by simp) (by simp [predE, Value.oneCell']) (by omega) (by simp; have := HS7.out.keep.size; omega) ?_; intro A' c' w9 hown hgrow hat; have fs := HS7.out.see3 (((Keeps.refl wr []).alloc (.cells (predE ⟨pOf s, ar, e⟩).toArray 107)).rest (Keeps.ofGrown hgrow)); have g0 := fs.1; have g1 := fs.2; clear fs o2 of2 m0 m1 m2 m3)
                go_roundw
                case rel =>
                  exact ⟨k + 1, by go_num, by omega, by omega, A', c', _, HPs.out.step HSs.out ⟨har.1, by omega⟩ he HD2.out, HS7.out.step3 ((Keeps.refl wr []).alloc (.cells (predE ⟨pOf s, ar, e⟩).toArray 107)) (x := ⟨pOf s, ar, e⟩) hown hgrow⟩
                case measure => simp [intOf]; omega
          have t1 : decide (0 ≤ x.entry) = true := by simpa using hx0
          by_cases hx1 : x.entry < 1000
          case neg =>
            have t2 : decide (x.entry < 1000) = false := by simpa using hx1
            go_wp2_with fail
            have HS6 := HS5
            have HB6 := HB5
            clear q0 q2' m2 m3
            go_loopw [9] (fun i wr => ∃ j : Nat, j ≤ k ∧ i = .int .i64 j ∧ ∃ e : Int, (e = 65535 ∨ (0 ≤ e ∧ e < n)) ∧ (e ≠ 65535 → e ∉ entL (ps.take j)) ∧ Blk wr pb 107 #[.string (pOf s), .int .i64 ar, .int .i64 e] ∧ FxSt w wr #[.slice Aa na ca, .slice Af nf cf, .slice (some ⟨b, off, none⟩) np cp, .slice Ac nc cc] A3 A4 k n c3 c4 ps (List.replicate n zeroI)) (fun i _ => k - (intOf i).toNat)
            case atStart => exact ⟨0, by omega, rfl, 65535, .inl rfl, fun _ => by simp [entL], HB6.out, HS6.out⟩
            case round =>
              clear HS6 HB6
              obtain ⟨j, hj, rfl, e, he, hd, hbp, hst⟩ := hrel
              have HS7 := Lib.hid hst
              have HB7 := Lib.hid hbp
              have HD := Lib.hid hd
              have m2 := hbp.cell 2
              have m3 := hbp.frozen 2
              have m0 := hbp.cell 0
              have m1 := hbp.cell 1
              have o2 := hst.out.cell 2
              have of2 := hst.out.frozen 2
              clear hst hbp hd
              by_cases hjk : j < k
              · obtain ⟨y, hy⟩ := at_of HPs.out.len hjk
                obtain ⟨b3, off3, hA3, hb3, hc3⟩ := (Rd.of_own HS7.out.r3).field predE_len hy (by omega)
                have r2 : World.cell? _ ⟨b3, off3 + j * 3 + 2, none⟩ = some (.int .i64 y.entry) := hc3 2 _ rfl
                have HY := Lib.hid hy
                subst hA3
                clear hy hc3
                have b3' : (0 : Int) ≤ (j : Int) := Int.natCast_nonneg _
                have b4' : (j : Int) < (k : Int) := by omega
                by_cases hye : y.entry = e
                · have d7 : (y.entry == e) = true := by simpa using hye
                  go_wp2_with fail
                  refine wp_region_tx (fun W' => W'.cell? ⟨w.heap.size + 1 + 1 + 1 + 1 + 1, 2, none⟩ = some (.slice (some ⟨b3, off3, none⟩) k c3) ∧ W'.cell? ⟨b3, off3 + j * 3 + 2, none⟩ = some (.int .i64 y.entry) ∧ W'.cell? ⟨pb, 2, none⟩ = some (.int .i64 e)) [(0, true), (1, true), (2, true), (3, true), (4, true), (5, true), (6, true), (7, true), (8, false)] (by kernel_rfl) (by kernel_rfl) (by exact ⟨o2, r2, m2⟩) (fun hHeld => ?_)
                  (repeat (first | (refine wpTx_take (v := ?_) rfl (by assumption) ?_ (by rfl) ?_; rotate_left; (focus (intro w' hSw; (try dsimp only at hSw); go_simp; (try with_reducible rfl); done)); simp only [Act.put, List.setIfInBounds_toArray, List.set_cons_zero, List.set_cons_succ]) | (refine wpTx_skip rfl (by assumption) (by rfl) ?_; simp only [Act.put, List.setIfInBounds_toArray, List.set_cons_zero, List.set_cons_succ])))
                  refine wpTx_last rfl (fun K hK => ?_)
                  go_simp
                  refine hK.out _ _ (NoPanic.normal ?_); clear hK K; (try simp only [Act.put, List.setIfInBounds_toArray, List.set_cons_zero, List.set_cons_succ])
                  have kk := (Keeps.refl wr [pb]).drew.setCell (p := ⟨pb, 2, none⟩) (.inl (by simp)) (.int .i64 65535)
                  have HS8 := Lib.hid (HS7.out.past kk (fun q hq => by simp at hq; subst hq; exact ⟨hpb5, hpb⟩))
                  have HB8 := Lib.hid (HB7.out.drew.set_ 2 (.int .i64 65535))
                  clear m0 m1 o2 of2 r2 hHeld
                  go_wp2_with fail
                  go_roundw
                  case rel => exact ⟨j + 1, by omega, by go_num, 65535, .inl rfl, fun h => absurd rfl h, HB8.out, HS8.out⟩
                  case measure => simp [intOf]; omega
                · have d7 : (y.entry == e) = false := by simpa using hye
                  have HD2 := Lib.hid (fun h65 => entL_mem_step HY.out (HD.out h65) hye)
                  go_wp2_with fail
                  refine wp_region_tx (fun W' => W'.cell? ⟨w.heap.size + 1 + 1 + 1 + 1 + 1, 2, none⟩ = some (.slice (some ⟨b3, off3, none⟩) k c3) ∧ W'.cell? ⟨b3, off3 + j * 3 + 2, none⟩ = some (.int .i64 y.entry) ∧ W'.cell? ⟨pb, 2, none⟩ = some (.int .i64 e)) [(0, true), (1, true), (2, true), (3, true), (4, true), (5, true), (6, true), (7, true), (8, false)] (by kernel_rfl) (by kernel_rfl) (by exact ⟨o2, r2, m2⟩) (fun hHeld => ?_)
                  (repeat (first | (refine wpTx_take (v := ?_) rfl (by assumption) ?_ (by rfl) ?_; rotate_left; (focus (intro w' hSw; (try dsimp only at hSw); go_simp; (try with_reducible rfl); done)); simp only [Act.put, List.setIfInBounds_toArray, List.set_cons_zero, List.set_cons_succ]) | (refine wpTx_skip rfl (by assumption) (by rfl) ?_; simp only [Act.put, List.setIfInBounds_toArray, List.set_cons_zero, List.set_cons_succ])))
                  refine wpTx_last rfl (fun K hK => ?_)
                  go_simp
                  refine hK.out _ _ (NoPanic.normal ?_); clear hK K; (try simp only [Act.put, List.setIfInBounds_toArray, List.set_cons_zero, List.set_cons_succ])
                  have HS8 := Lib.hid (HS7.out.go (Keeps.refl wr []).drew)
                  have HB8 := Lib.hid HB7.out.drew
                  clear m2 m3 m0 m1 o2 of2 r2 hHeld
                  go_wp2_with fail
                  go_roundw
                  case rel => exact ⟨j + 1, by omega, by go_num, e, he, HD2.out, HB8.out, HS8.out⟩
                  case measure => simp [intOf]; omega
              · obtain rfl : k = j := by omega
                have HD2 : Hid (e ≠ 65535 → e ∉ entL ps) := by
                  have h2 := HD.out
                  rw [List.take_of_length_le (by have := HPs.out.len; omega)] at h2
                  exact h2
                go_wp2_with (at_builtin; refine wpList_app _ el_rpred rfl (.tmp 112) (.tmp 114) rfl w.heap.size A3 k c3 (ps.flatMap predE) rfl (own_keep0 HS7.out.r3 ((Keeps.refl wr []).alloc _)) (some ⟨wr.heap.size, 0, none⟩) 1 1 (predE ⟨pOf s, ar, e⟩) rfl (Rd.one wr _ (predE ⟨pOf s, ar, e⟩)) rfl (by simp) (by simp [predE, Value.oneCell']) (by omega) (by simp; have := HS7.out.keep.size; omega) ?_; intro A' c' w9 hown hgrow hat; have fs := HS7.out.see3 (((Keeps.refl wr []).alloc (.cells (predE ⟨pOf s, ar, e⟩).toArray 107)).rest (Keeps.ofGrown hgrow)); have g0 := fs.1; have g1 := fs.2; clear fs o2 of2 m0 m1 m2 m3)
                go_roundw
                case rel =>
                  exact ⟨k + 1, by go_num, by omega, by omega, A', c', _, HPs.out.step HSs.out ⟨har.1, by omega⟩ he HD2.out, HS7.out.step3 ((Keeps.refl wr []).alloc (.cells (predE ⟨pOf s, ar, e⟩).toArray 107)) (x := ⟨pOf s, ar, e⟩) hown hgrow⟩
                case measure => simp [intOf]; omega
          have t2 : decide (x.entry < 1000) = true := by simpa using hx1
          obtain ⟨E, hE⟩ : ∃ E, x.entry.tmod n = E := ⟨_, rfl⟩
          have hE0 : 0 ≤ E ∧ E < n := by rw [← hE]; exact ⟨Int.tmod_nonneg _ hx0, Int.tmod_lt_of_pos _ (by omega)⟩
          have hnz : ((n : Int) == 0) = false := by simp; omega
          have hnz' : (n : Int) ≠ 0 := by omega
          have hwE : IntKind.i64.wrap E = E := by simp only [IntKind.wrap_i64]; omega
          go_wp2_with fail
          have kk := (Keeps.refl W5 [pb]).setCell (p := ⟨pb, 2, none⟩) (.inl (by simp)) (.int .i64 E)
          have HS5' := Lib.hid (HS5.out.past kk (fun q hq => by simp at hq; subst hq; exact ⟨hpb5, hpb⟩))
          have HB5' := Lib.hid (HB5.out.set_ 2 (.int .i64 E))
          have HS6 := HS5'
          have HB6 := HB5'
          clear q0 q2' m2 m3
          go_loopw [9] (fun i wr => ∃ j : Nat, j ≤ k ∧ i = .int .i64 j ∧ ∃ e : Int, (e = 65535 ∨ (0 ≤ e ∧ e < n)) ∧ (e ≠ 65535 → e ∉ entL (ps.take j)) ∧ Blk wr pb 107 #[.string (pOf s), .int .i64 ar, .int .i64 e] ∧ FxSt w wr #[.slice Aa na ca, .slice Af nf cf, .slice (some ⟨b, off, none⟩) np cp, .slice Ac nc cc] A3 A4 k n c3 c4 ps (List.replicate n zeroI)) (fun i _ => k - (intOf i).toNat)
          case atStart => exact ⟨0, by omega, rfl, E, .inr hE0, fun _ => by simp [entL], HB6.out, HS6.out⟩
          case round =>
            clear HS6 HB6
            obtain ⟨j, hj, rfl, e, he, hd, hbp, hst⟩ := hrel
            have HS7 := Lib.hid hst
            have HB7 := Lib.hid hbp
            have HD := Lib.hid hd
            have m2 := hbp.cell 2
            have m3 := hbp.frozen 2
            have m0 := hbp.cell 0
            have m1 := hbp.cell 1
            have o2 := hst.out.cell 2
            have of2 := hst.out.frozen 2
            clear hst hbp hd
            by_cases hjk : j < k
            · obtain ⟨y, hy⟩ := at_of HPs.out.len hjk
              obtain ⟨b3, off3, hA3, hb3, hc3⟩ := (Rd.of_own HS7.out.r3).field predE_len hy (by omega)
              have r2 : World.cell? _ ⟨b3, off3 + j * 3 + 2, none⟩ = some (.int .i64 y.entry) := hc3 2 _ rfl
              have HY := Lib.hid hy
              subst hA3
              clear hy hc3
              have b3' : (0 : Int) ≤ (j : Int) := Int.natCast_nonneg _
              have b4' : (j : Int) < (k : Int) := by omega
              by_cases hye : y.entry = e
              · have d7 : (y.entry == e) = true := by simpa using hye
                go_wp2_with fail
                refine wp_region_tx (fun W' => W'.cell? ⟨w.heap.size + 1 + 1 + 1 + 1 + 1, 2, none⟩ = some (.slice (some ⟨b3, off3, none⟩) k c3) ∧ W'.cell? ⟨b3, off3 + j * 3 + 2, none⟩ = some (.int .i64 y.entry) ∧ W'.cell? ⟨pb, 2, none⟩ = some (.int .i64 e)) [(0, true), (1, true), (2, true), (3, true), (4, true), (5, true), (6, true), (7, true), (8, false)] (by kernel_rfl) (by kernel_rfl) (by exact ⟨o2, r2, m2⟩) (fun hHeld => ?_)
                (repeat (first | (refine wpTx_take (v := ?_) rfl (by assumption) ?_ (by rfl) ?_; rotate_left; (focus (intro w' hSw; (try dsimp only at hSw); go_simp; (try with_reducible rfl); done)); simp only [Act.put, List.setIfInBounds_toArray, List.set_cons_zero, List.set_cons_succ]) | (refine wpTx_skip rfl (by assumption) (by rfl) ?_; simp only [Act.put, List.setIfInBounds_toArray, List.set_cons_zero, List.set_cons_succ])))
                refine wpTx_last rfl (fun K hK => ?_)
                go_simp
                refine hK.out _ _ (NoPanic.normal ?_); clear hK K; (try simp only [Act.put, List.setIfInBounds_toArray, List.set_cons_zero, List.set_cons_succ])
                have kk := (Keeps.refl wr [pb]).drew.setCell (p := ⟨pb, 2, none⟩) (.inl (by simp)) (.int .i64 65535)
                have HS8 := Lib.hid (HS7.out.past kk (fun q hq => by simp at hq; subst hq; exact ⟨hpb5, hpb⟩))
                have HB8 := Lib.hid (HB7.out.drew.set_ 2 (.int .i64 65535))
                clear m0 m1 o2 of2 r2 hHeld
                go_wp2_with fail
                go_roundw
                case rel => exact ⟨j + 1, by omega, by go_num, 65535, .inl rfl, fun h => absurd rfl h, HB8.out, HS8.out⟩
                case measure => simp [intOf]; omega
              · have d7 : (y.entry == e) = false := by simpa using hye
                have HD2 := Lib.hid (fun h65 => entL_mem_step HY.out (HD.out h65) hye)
                go_wp2_with fail
                refine wp_region_tx (fun W' => W'.cell? ⟨w.heap.size + 1 + 1 + 1 + 1 + 1, 2, none⟩ = some (.slice (some ⟨b3, off3, none⟩) k c3) ∧ W'.cell? ⟨b3, off3 + j * 3 + 2, none⟩ = some (.int .i64 y.entry) ∧ W'.cell? ⟨pb, 2, none⟩ = some (.int .i64 e)) [(0, true), (1, true), (2, true), (3, true), (4, true), (5, true), (6, true), (7, true), (8, false)] (by kernel_rfl) (by kernel_rfl) (by exact ⟨o2, r2, m2⟩) (fun hHeld => ?_)
                (repeat (first | (refine wpTx_take (v := ?_) rfl (by assumption) ?_ (by rfl) ?_; rotate_left; (focus (intro w' hSw; (try dsimp only at hSw); go_simp; (try with_reducible rfl); done)); simp only [Act.put, List.setIfInBounds_toArray, List.set_cons_zero, List.set_cons_succ]) | (refine wpTx_skip rfl (by assumption) (by rfl) ?_; simp only [Act.put, List.setIfInBounds_toArray, List.set_cons_zero, List.set_cons_succ])))
                refine wpTx_last rfl (fun K hK => ?_)
                go_simp
                refine hK.out _ _ (NoPanic.normal ?_); clear hK K; (try simp only [Act.put, List.setIfInBounds_toArray, List.set_cons_zero, List.set_cons_succ])
                have HS8 := Lib.hid (HS7.out.go (Keeps.refl wr []).drew)
                have HB8 := Lib.hid HB7.out.drew
                clear m2 m3 m0 m1 o2 of2 r2 hHeld
                go_wp2_with fail
                go_roundw
                case rel => exact ⟨j + 1, by omega, by go_num, e, he, HD2.out, HB8.out, HS8.out⟩
                case measure => simp [intOf]; omega
            · obtain rfl : k = j := by omega
              have HD2 : Hid (e ≠ 65535 → e ∉ entL ps) := by
                have h2 := HD.out
                rw [List.take_of_length_le (by have := HPs.out.len; omega)] at h2
                exact h2
              go_wp2_with (at_builtin; refine wpList_app _ el_rpred rfl (.tmp 112) (.tmp 114) rfl w.heap.size A3 k c3 (ps.flatMap predE) rfl (own_keep0 HS7.out.r3 ((Keeps.refl wr []).alloc _)) (some ⟨wr.heap.size, 0, none⟩) 1 1 (predE ⟨pOf s, ar, e⟩) rfl (Rd.one wr _ (predE ⟨pOf s, ar, e⟩)) rfl (by simp) (by simp [predE, Value.oneCell']) (by omega) (by simp; have := HS7.out.keep.size; omega) ?_; intro A' c' w9 hown hgrow hat; have fs := HS7.out.see3 (((Keeps.refl wr []).alloc (.cells (predE ⟨pOf s, ar, e⟩).toArray 107)).rest (Keeps.ofGrown hgrow)); have g0 := fs.1; have g1 := fs.2; clear fs o2 of2 m0 m1 m2 m3)
              go_roundw
              case rel =>
                exact ⟨k + 1, by go_num, by omega, by omega, A', c', _, HPs.out.step HSs.out ⟨har.1, by omega⟩ he HD2.out, HS7.out.step3 ((Keeps.refl wr []).alloc (.cells (predE ⟨pOf s, ar, e⟩).toArray 107)) (x := ⟨pOf s, ar, e⟩) hown hgrow⟩
              case measure => simp [intOf]; omega
        · have d1 : decide ((k : Int) < 4) = false := by simp only [decide_eq_false_iff_not]; omega
          go_wp2_with fail
          go_meet
          exact ⟨k, A3, c3, ps, hk4, by omega, HPs.out, HS.out⟩
      · have d0 : decide ((k : Int) < (np : Int)) = false := by simp only [decide_eq_false_iff_not]; omega
        go_wp2_with fail
        go_meet
        exact ⟨k, A3, c3, ps, hk4, by omega, HPs.out, HS.out⟩
  case rest =>
  obtain ⟨P, A3, c3, ps, hP4, hP0, hps, hst⟩ := hcut
  have HPs := Lib.hid hps
  clear HST
  have HST := Lib.hid hst
  clear hst hps
  go_upto_block 6 with fail
  go_cut [] (fun wx => ∃ is, is.length = n ∧ (∀ x ∈ is, insG P n x) ∧ FxSt w wx #[.slice Aa na ca, .slice Af nf cf, .slice Ap np cp, .slice Ac nc cc] A3 A4 P n c3 c4 ps is)
  case first =>
    go_wp2_with fail
    go_loopw [10] (fun i wr => ∃ k : Nat, i = .int .i64 k ∧ k ≤ n ∧ ∃ is, is.length = n ∧ Hid (∀ x ∈ is.take k, insG P n x) ∧ FxSt w wr #[.slice Aa na ca, .slice Af nf cf, .slice Ap np cp, .slice Ac nc cc] A3 A4 P n c3 c4 ps is) (fun i _ => n - (intOf i).toNat)
    case atStart => exact ⟨0, rfl, by omega, _, by simp, fun x hx => absurd hx (by simp), HST.out⟩
    case round =>
      clear HST
      obtain ⟨k, rfl, hkn, is, hil, HI, hst⟩ := hrel
      have HS := Lib.hid hst
      have p3 := hst.box.cell 3
      clear hst
      by_cases hk : k < n
      · obtain ⟨x, hx⟩ := at_of Lc.out (show k < nc by omega)
        obtain ⟨b, off, hA, hb, hc⟩ := (HCo.out).field insE_len hx (by omega)
        subst hA
        have q0 : World.cell? _ ⟨b, off + k * 5, none⟩ = some (.int .i64 x.op) := (HS.out.keep.cell0 hb).trans (hc 0 _ rfl)
        have qa : ∀ t, t < 4 → w.cell? ⟨b, off + k * 5 + 1 + t, none⟩ = some (.int .i64 (x.arg t)) := fun t ht => by
          match t, ht with
          | 0, _ => exact hc 1 _ rfl
          | 1, _ => exact hc 2 _ rfl
          | 2, _ => exact hc 3 _ rfl
          | 3, _ => exact hc 4 _ rfl
        have HQa := Lib.hid qa
        obtain ⟨U, hU⟩ : ∃ U, IntKind.u64.wrap x.op = U := ⟨_, rfl⟩
        have hU0 : 0 ≤ U := by rw [← hU]; simp only [IntKind.wrap, IntKind.bits, IntKind.signed, Bool.false_and, Bool.false_eq_true, if_false]; omega
        obtain ⟨op, hop'⟩ : ∃ op, U.tmod 27 = op := ⟨_, rfl⟩
        have hop : 0 ≤ op ∧ op < 27 := by rw [← hop']; exact ⟨Int.tmod_nonneg _ hU0, Int.tmod_lt_of_pos _ (by omega)⟩
        have hwop : IntKind.i64.wrap op = op := by simp only [IntKind.wrap_i64]; omega
        have b0 : (0 : Int) ≤ (k : Int) := Int.natCast_nonneg _
        have b1 : (k : Int) < (nc : Int) := by omega
        clear hx hc qa
        go_wp2_with fail
        have HX1 : Hid (Blk (wr.alloc (.cells #[.int .i64 op, .int .i64 0, .int .i64 0, .int .i64 0, .int .i64 0] 110)) wr.heap.size 110 (insC op [])) := Blk.new wr _ _
        have HS1 := Lib.hid (HS.out.go ((Keeps.refl wr []).alloc (.cells #[.int .i64 op, .int .i64 0, .int .i64 0, .int .i64 0, .int .i64 0] 110)))
        have hxb := HS.out.out.lt
        have hxb4 : wr.heap.size ∉ ownL (.slice A4 n c4) := fun hm => by
          unfold ownL at hm
          simp at hm
          have := (HS.out.r4.lt _ hm).2
          omega
        have hxb3 : wr.heap.size ∉ ownL (.slice A3 P c3) := fun hm => by
          unfold ownL at hm
          simp at hm
          have := (HS.out.r3.lt _ hm).2
          omega
        refine (refKindsF_any op _).mono ?_
        rintro e w3 ⟨A5, c5, rfl, hN, k3, hfr⟩
        have HX3 := Lib.hid (HX1.out.keep k3 (by simp))
        have HS3 := Lib.hid (HS1.out.go k3)
        have HN := Lib.hid hN
        have hfr2 : ∀ b off, A5 = some ⟨b, off, none⟩ → wr.heap.size < b := fun b off h => by have := hfr b off h; simp at this; omega
        have HFR := Lib.hid hfr2
        have hfew := kinds_few op
        have hsz3 := k3.size
        simp at hsz3
        obtain ⟨m, hm⟩ : ∃ m, (kindsOf op).length = m := ⟨_, rfl⟩
        rw [hm] at hfew ⊢
        have HM := Lib.hid hm
        clear k3 hN hfr hfr2 hm q0 p3 HS HS1 HX1
        generalize wr.heap.size = xb at *
        go_wp2_with fail
        go_loopw [13] (fun i wr => ∃ j : Nat, j ≤ m ∧ i = .int .i64 j ∧ ∃ l, l.length = j ∧ Hid (∀ t, t < j → argG P n op t (l.getD t 0)) ∧ Blk wr xb 110 (insC op l) ∧ FxSt w wr #[.slice Aa na ca, .slice Af nf cf, .slice Ap np cp, .slice (some ⟨b, off, none⟩) nc cc] A3 A4 P n c3 c4 ps is ∧ Keeps w3 wr [xb]) (fun i _ => m - (intOf i).toNat)
        case atStart => exact ⟨0, Nat.zero_le _, rfl, [], rfl, (fun t ht => absurd ht (by omega)), HX3.out, HS3.out, Keeps.refl _ _⟩
        case round =>
          clear HS3 HX3
          obtain ⟨j, hj, rfl, l, hl, HAr, hx, hst, kr⟩ := hrel
          have HX := Lib.hid hx
          have HS := Lib.hid hst
          have HKr := Lib.hid kr
          clear hx hst kr
          by_cases hlj : j < m
          · obtain ⟨b7, off7, y, hA7, hb7, hc7, hy⟩ := HN.out j (by rw [HM.out]; exact hlj)
            subst hA7
            have hfr7 := HFR.out b7 off7 rfl
            have hx1 := kinds_mem op y (List.mem_of_getElem? hy)
            obtain ⟨q, rfl⟩ := Int.eq_ofNat_of_zero_le (show 0 ≤ y by omega)
            have q1 := (HKr.out.cell (p := ⟨b7, off7 + j, none⟩) hb7 (by simp; omega)).trans hc7
            obtain ⟨mo, hmo⟩ := at_of (l := mostT P n) (n := 10) rfl (show q < 10 by omega)
            have hmost : World.cell? (wr.alloc (.cells #[.int .i64 1, .int .i64 32, .int .i64 16, .int .i64 3, .int .i64 2, .int .i64 8, .int .i64 17, .int .i64 P, .int .i64 n, .int .i64 16] 3)).drew ⟨wr.heap.size, q, none⟩ = some (.int .i64 mo) := by
              refine ((Blk.new wr 3 #[.int .i64 1, .int .i64 32, .int .i64 16, .int .i64 3, .int .i64 2, .int .i64 8, .int .i64 17, .int .i64 P, .int .i64 n, .int .i64 16]).cell q).trans ?_
              have h2 : ((#[.int .i64 1, .int .i64 32, .int .i64 16, .int .i64 3, .int .i64 2, .int .i64 8, .int .i64 17, .int .i64 P, .int .i64 n, .int .i64 16] : Array Value).toList[q]?) = ((mostT P n).map (Value.int .i64))[q]? := rfl
              rw [← Array.getElem?_toList, h2, List.getElem?_map, hmo]
              rfl
            have b2 : (0 : Int) ≤ (j : Int) := Int.natCast_nonneg _
            have b3 : (j : Int) < (m : Int) := by omega
            have b4 : (j : Int) < 4 := by omega
            have b5 : (0 : Int) ≤ (q : Int) := Int.natCast_nonneg _
            have b6 : (q : Int) < 10 := by omega
            have o2 := HS.out.out.cell 2
            have HY := Lib.hid hy
            have HMo := Lib.hid hmo
            have hmo0 : 0 ≤ mo ∧ mo ≤ 40 := by
              have hq10 : q < 10 := by omega
              match q, hq10 with
              | 0, _ => simp [mostT] at hmo; omega
              | 1, _ => simp [mostT] at hmo; omega
              | 2, _ => simp [mostT] at hmo; omega
              | 3, _ => simp [mostT] at hmo; omega
              | 4, _ => simp [mostT] at hmo; omega
              | 5, _ => simp [mostT] at hmo; omega
              | 6, _ => simp [mostT] at hmo; omega
              | 7, _ => simp [mostT] at hmo; omega
              | 8, _ => simp [mostT] at hmo; omega
              | 9, _ => simp [mostT] at hmo; omega
            clear hc7 hy hmo
            go_wp2_with fail
            refine wp_region_tx (fun W' => W'.cell? ⟨w.heap.size + 1 + 1 + 1 + 1 + 1, 2, none⟩ = some (.slice A3 P c3) ∧ W'.cell? ⟨b7, off7 + j, none⟩ = some (.int .i64 q)) [(0, true), (1, true), (2, true), (3, true), (5, true), (6, true), (7, true), (8, true), (4, false), (9, true), (10, false), (11, false)] (by kernel_rfl) (by kernel_rfl) (by exact ⟨o2, q1⟩) (fun hHeld => ?_)
            (repeat (first | (refine wpTx_take (v := ?_) rfl (by assumption) ?_ (by rfl) ?_; rotate_left; (focus (intro w' hSw; (try dsimp only at hSw); go_simp; (try with_reducible rfl); done)); simp only [Act.put, List.setIfInBounds_toArray, List.set_cons_zero, List.set_cons_succ]) | (refine wpTx_skip rfl (by assumption) (by rfl) ?_; simp only [Act.put, List.setIfInBounds_toArray, List.set_cons_zero, List.set_cons_succ])))
            refine wpTx_go rfl (fun K hK => ?_)
            go_simp
            refine hK.out _ _ ?_ ?_
            · have k5 := (Keeps.refl wr []).drew.alloc (.cells #[.int .i64 1, .int .i64 32, .int .i64 16, .int .i64 3, .int .i64 2, .int .i64 8, .int .i64 17, .int .i64 P, .int .i64 n, .int .i64 16] 3)
              exact ⟨(HS.out.go k5).out.cell 2, (k5.cell0 (World.block_lt_of_cell? wr _ q1)).trans q1⟩
            (clear hHeld; intro hHeld; clear hK K; (try simp only [Act.put, List.setIfInBounds_toArray, List.set_cons_zero, List.set_cons_succ]))
            (repeat (first | (refine wpTx_take (v := ?_) rfl (by assumption) ?_ (by rfl) ?_; rotate_left; (focus (intro w' hSw; (try dsimp only at hSw); go_simp; (try with_reducible rfl); done)); simp only [Act.put, List.setIfInBounds_toArray, List.set_cons_zero, List.set_cons_succ]) | (refine wpTx_skip rfl (by assumption) (by rfl) ?_; simp only [Act.put, List.setIfInBounds_toArray, List.set_cons_zero, List.set_cons_succ])))
            refine wpTx_go rfl (fun K hK => ?_)
            go_simp
            refine hK.out _ _ ?_ ?_
            · have k5 := (Keeps.refl wr []).alloc (.cells #[.int .i64 1, .int .i64 32, .int .i64 16, .int .i64 3, .int .i64 2, .int .i64 8, .int .i64 17, .int .i64 P, .int .i64 n, .int .i64 16] 3) |>.drew
              exact ⟨(HS.out.go k5).out.cell 2, (k5.cell0 (World.block_lt_of_cell? wr _ q1)).trans q1⟩
            (clear hHeld; intro hHeld; clear hK K; (try simp only [Act.put, List.setIfInBounds_toArray, List.set_cons_zero, List.set_cons_succ]))
            refine wpTx_last rfl (fun K hK => ?_)
            go_simp
            refine hK.out _ _ (NoPanic.normal ?_); clear hK K; (try simp only [Act.put, List.setIfInBounds_toArray, List.set_cons_zero, List.set_cons_succ])
            have k5 := (Keeps.refl wr []).alloc (.cells #[.int .i64 1, .int .i64 32, .int .i64 16, .int .i64 3, .int .i64 2, .int .i64 8, .int .i64 17, .int .i64 P, .int .i64 n, .int .i64 16] 3) |>.drew
            have HS2 := Lib.hid (HS.out.go k5)
            have HX2 := Lib.hid (HX.out.keep k5 (by simp))
            have HK2 := Lib.hid (HKr.out.trans (k5.to_ _))
            have q1' := (k5.cell0 (World.block_lt_of_cell? wr _ q1)).trans q1
            clear hmost q1 o2 hHeld k5 HS HX HKr
            generalize (wr.alloc (.cells #[.int .i64 1, .int .i64 32, .int .i64 16, .int .i64 3, .int .i64 2, .int .i64 8, .int .i64 17, .int .i64 P, .int .i64 n, .int .i64 16] 3)).drew = wr2 at *
            by_cases hz : mo = 0
            · have hz' : (mo == 0) = true := by simpa using hz
              have hnp : np = 0 := by
                refine hP0 ?_
                have h1 := HMo.out
                have hq10 : q < 10 := by omega
                rw [hz] at h1
                match q, hq10 with
                | 0, _ => simp [mostT] at h1
                | 1, _ => simp [mostT] at h1
                | 2, _ => simp [mostT] at h1
                | 3, _ => simp [mostT] at h1
                | 4, _ => simp [mostT] at h1
                | 5, _ => simp [mostT] at h1
                | 6, _ => simp [mostT] at h1
                | 7, _ => simp [mostT] at h1; omega
                | 8, _ => simp [mostT] at h1; omega
                | 9, _ => simp [mostT] at h1
              subst hnp
              have HR := Lib.hid (HRec.out rfl)
              have HR4 : Hid (∀ W', Keeps wr2 W' [] → (fun W' => W'.cell? ⟨w.heap.size, 2, none⟩ = some (.slice Ap 0 cp) ∧ W'.cell? ⟨w.heap.size, 3, none⟩ = some (.slice (some ⟨b, off, none⟩) nc cc) ∧ W'.frozen? ⟨w.heap.size + 1, 0, none⟩ = false ∧ W'.frozen? ⟨w.heap.size + 1, 1, none⟩ = false ∧ W'.frozen? ⟨w.heap.size + 1, 2, none⟩ = false ∧ W'.frozen? ⟨w.heap.size + 1, 3, none⟩ = false ∧ W'.cell? ⟨w.heap.size + 1, 0, none⟩ = some (.slice none 0 0) ∧ W'.cell? ⟨w.heap.size + 1, 1, none⟩ = some (.slice none 0 0) ∧ W'.cell? ⟨w.heap.size + 1, 2, none⟩ = some (.slice none 0 0) ∧ W'.cell? ⟨w.heap.size + 1, 3, none⟩ = some (.slice none 0 0))  W') := fun W' k => by
                have s := HS2.out.go k
                exact ⟨s.box.cell 2, s.box.cell 3, s.res.frozen 0, s.res.frozen 1, s.res.frozen 2, s.res.frozen 3, s.res.cell 0, s.res.cell 1, s.res.cell 2, s.res.cell 3⟩
              clear HRec
              go_wp2_with fail
              refine wp_region_tx (fun W' => W'.cell? ⟨w.heap.size, 2, none⟩ = some (.slice Ap 0 cp) ∧ W'.cell? ⟨w.heap.size, 3, none⟩ = some (.slice (some ⟨b, off, none⟩) nc cc) ∧ W'.frozen? ⟨w.heap.size + 1, 0, none⟩ = false ∧ W'.frozen? ⟨w.heap.size + 1, 1, none⟩ = false ∧ W'.frozen? ⟨w.heap.size + 1, 2, none⟩ = false ∧ W'.frozen? ⟨w.heap.size + 1, 3, none⟩ = false ∧ W'.cell? ⟨w.heap.size + 1, 0, none⟩ = some (.slice none 0 0) ∧ W'.cell? ⟨w.heap.size + 1, 1, none⟩ = some (.slice none 0 0) ∧ W'.cell? ⟨w.heap.size + 1, 2, none⟩ = some (.slice none 0 0) ∧ W'.cell? ⟨w.heap.size + 1, 3, none⟩ = some (.slice none 0 0)) [(0, true), (2, true), (3, true), (5, true), (6, true), (1, false), (4, false), (7, true), (8, false), (9, false)] (by kernel_rfl) (by kernel_rfl) (by exact HR4.out _ (Keeps.refl _ []).drew) (fun hHeld => ?_)
              (repeat (first | (refine wpTx_take (v := ?_) rfl (by assumption) ?_ (by rfl) ?_; rotate_left; (focus (intro w' hSw; (try dsimp only at hSw); go_simp; (try with_reducible rfl); done)); simp only [Act.put, List.setIfInBounds_toArray, List.set_cons_zero, List.set_cons_succ]) | (refine wpTx_skip rfl (by assumption) (by rfl) ?_; simp only [Act.put, List.setIfInBounds_toArray, List.set_cons_zero, List.set_cons_succ])))
              refine wpTx_go rfl (fun K hK => ?_)
              go_simp
              refine hK.out _ _ ?_ ?_
              · exact HR4.out _ ((Keeps.refl _ []).drew.alloc _)
              (clear hHeld; intro hHeld; clear hK K; (try simp only [Act.put, List.setIfInBounds_toArray, List.set_cons_zero, List.set_cons_succ]))
              refine wpTx_go rfl (fun K hK => ?_)
              have ho0 : (wr2.alloc (.cells #[.string ⟨#[]⟩, .int .i64 0, .int .i64 0] 107)).drew.ownsRow wr2.heap.size 107 3 (.slice (some ⟨wr2.heap.size, 0, none⟩) 1 1) 1 (predE ⟨⟨#[]⟩, 0, 0⟩) := own_keep0 (World.ownsRow_lit wr2 _ 1 (Nat.le_refl _) (by unfold maxLen; omega) rfl) (Keeps.refl _ []).drew
              have k6 : Keeps wr2 (wr2.alloc (.cells #[.string ⟨#[]⟩, .int .i64 0, .int .i64 0] 107)).drew [] := ((Keeps.refl wr2 []).alloc _).drew
              refine step_app _ el_rpred (by rfl) _ _ (by rfl) wr2.heap.size (some ⟨wr2.heap.size, 0, none⟩) 1 1 (predE ⟨⟨#[]⟩, 0, 0⟩) (by rfl) ho0 Ap 0 cp [] (by rfl) Rd.nil (by simp) HZp.out (by simp) (by omega) (by simp) ?_
              intro A' c' w9 hown hgrow hat
              have k9 : Keeps wr2 w9 [] := k6.app ho0 (Nat.le_refl _) hgrow
              rw [List.append_nil] at hown
              refine hK.out _ _ ?_ ?_
              · exact HR4.out _ k9
              (clear hHeld; intro hHeld; clear hK K; (try simp only [Act.put, List.setIfInBounds_toArray, List.set_cons_zero, List.set_cons_succ]))
              (repeat (first | (refine wpTx_take (v := ?_) rfl (by assumption) ?_ (by rfl) ?_; rotate_left; (focus (intro w' hSw; (try dsimp only at hSw); go_simp; (try with_reducible rfl); done)); simp only [Act.put, List.setIfInBounds_toArray, List.set_cons_zero, List.set_cons_succ]) | (refine wpTx_skip rfl (by assumption) (by rfl) ?_; simp only [Act.put, List.setIfInBounds_toArray, List.set_cons_zero, List.set_cons_succ])))
              refine wpTx_go rfl (fun K hK => ?_)
              go_simp
              have hcall := HR.out ⟨[], [], [⟨⟨#[]⟩, 0, 0⟩], o.code⟩ none none A' (some ⟨b, off, none⟩) 0 0 c' cc w9 ⟨Rd.nil, Rd.nil, Rd.of_own hown, HCo.out.keep (HS2.out.keep.trans k9), fun _ => rfl, fun _ => rfl, own_none0 hown, fun h => by cases h⟩
                ⟨fun f hf => absurd hf (by simp), fun f hf => by simp at hf; subst hf; exact ⟨⟨by decide, by decide⟩, ⟨by decide, by decide⟩⟩, HG.out.code⟩ (by simp)
              simp only [Lc.out, List.length_nil, List.length_cons] at hcall
              refine hcall.mono ?_
              rintro e w10 ⟨f, hf0, hff, Ba, Bf, Bp, Bc, da, df, dp, dc, rfl, hob, hlow, k10⟩
              have k11 : Keeps wr2 w10 [] := k9.trans k10
              have hsz9 := k9.size
              have HSr := Lib.hid (HS2.out.go k11)
              have hrb : w.heap.size + 1 < wr2.heap.size := HS2.out.res.lt
              refine hK.out _ _ ?_ ?_
              · exact HR4.out _ k11
              (clear hHeld; intro hHeld; clear hK K; (try simp only [Act.put, List.setIfInBounds_toArray, List.set_cons_zero, List.set_cons_succ]))
              refine wpTx_last rfl (fun K hK => ?_)
              go_simp
              refine hK.out _ _ (NoPanic.normal ?_); clear hK K; (try simp only [Act.put, List.setIfInBounds_toArray, List.set_cons_zero, List.set_cons_succ])
              go_wp2_with fail
              obtain ⟨hB, hk1⟩ := arr4_set (v0 := .slice Ba f.atoms.length da) (v1 := .slice Bf f.funs.length df) (v2 := .slice Bp f.preds.length dp) (v3 := .slice Bc f.code.length dc) HSr.out.res
              generalize World.setCell _ ⟨w.heap.size + 1, 3, none⟩ _ = W at *
              have y0 : World.cell? W ⟨w.heap.size + 1, 0, none⟩ = _ := hB.cell 0
              have y1 : World.cell? W ⟨w.heap.size + 1, 1, none⟩ = _ := hB.cell 1
              have y2 : World.cell? W ⟨w.heap.size + 1, 2, none⟩ = _ := hB.cell 2
              have y3 : World.cell? W ⟨w.heap.size + 1, 3, none⟩ = _ := hB.cell 3
              refine bodyPost_ret (v := .agg #[.slice Ba f.atoms.length da, .slice Bf f.funs.length df, .slice Bp f.preds.length dp, .slice Bc f.code.length dc]) (by simp [results, Try.results18, go_sem, y0, y1, y2, y3]) rfl ?_
              exact ⟨f, hf0, hff, Ba, Bf, Bp, Bc, da, df, dp, dc, rfl, hob.keepOff hk1 (b := w9.heap.size) hlow (by omega), fun a ha => by have := hlow a ha; have := HS2.out.keep.size; omega, HSr.out.keep.past hk1 (fun q hq => by simp at hq; simp; omega)⟩
            · have hz' : (mo == 0) = false := by simpa using hz
              obtain ⟨V, hV⟩ : ∃ V, IntKind.u64.wrap (x.arg j) = V := ⟨_, rfl⟩
              have hV0 : 0 ≤ V := by rw [← hV]; simp only [IntKind.wrap, IntKind.bits, IntKind.signed, Bool.false_and, Bool.false_eq_true, if_false]; omega
              have hwmo : IntKind.u64.wrap mo = mo := by simp only [IntKind.wrap, IntKind.bits, IntKind.signed, Bool.false_and, Bool.false_eq_true, if_false]; omega
              obtain ⟨u, hu⟩ : ∃ u, V.tmod mo = u := ⟨_, rfl⟩
              have hu0 : 0 ≤ u ∧ u < mo := by rw [← hu]; exact ⟨Int.tmod_nonneg _ hV0, Int.tmod_lt_of_pos _ (by omega)⟩
              have hwu : IntKind.i64.wrap u = u := by simp only [IntKind.wrap_i64]; omega
              have hwu1 : IntKind.i64.wrap (u + 1) = u + 1 := by simp only [IntKind.wrap_i64]; omega
              have hArg := Lib.hid (arg_good HY.out hP4 hn30 HMo.out hu0.1 hu0.2)
              have p3 := HS2.out.box.cell 3
              have qj : World.cell? wr2 ⟨b, off + k * 5 + 1 + j, none⟩ = some (.int .i64 (x.arg j)) := (HS2.out.keep.cell0 hb).trans (HQa.out j (by omega))
              have xf := HX2.out.frozen (1 + j)
              have x1 : World.cell? wr2 ⟨xb, 1 + j, none⟩ = (insC op l)[1 + j]? := HX2.out.cell (1 + j)
              obtain ⟨u5, hu5⟩ := insC_at op l j (by omega)
              rw [hu5] at x1
              have x0 : World.cell? wr2 ⟨xb, 0, none⟩ = some (.int .i64 op) := HX2.out.cell 0
              clear hu5
              by_cases h5 : q = 5
              · subst h5
                have t5 : (((5 : Nat) : Int) == 5) = true := rfl
                have hop26 : op ≠ 26 := by
                  rintro rfl
                  have h2 := HY.out
                  have hk := kinds26
                  rw [hk] at h2
                  have := List.mem_of_getElem? h2
                  simp at this
                have t26 : (op == 26) = false := by simpa using hop26

                have HXn : Hid (Blk ((wr2.setCell ⟨xb, 1 + j, none⟩ (.int .i64 u)).setCell ⟨xb, 1 + j, none⟩ (.int .i64 (u + 1))) xb 110 (insC op (l ++ [(u + 1)]))) := by
                  have h2 := (HX2.out.set_ (1 + j) (.int .i64 u)).set_ (1 + j) (.int .i64 (u + 1))
                  rw [Array.setIfInBounds_setIfInBounds, insC_set op _ l j hl (by omega)] at h2
                  exact h2
                have kk := ((Keeps.refl wr2 [xb]).setCell (p := ⟨xb, 1 + j, none⟩) (.inl (by simp)) (.int .i64 u)).setCell (p := ⟨xb, 1 + j, none⟩) (.inl (by simp)) (.int .i64 (u + 1))
                have HSn := Lib.hid (HS2.out.past kk (fun q hq => by simp at hq; subst hq; exact ⟨hxb, hxb3, hxb4⟩))
                have HKn := Lib.hid (HK2.out.trans kk)
                have x1b : World.cell? (wr2.setCell ⟨xb, 1 + j, none⟩ (.int .i64 u)) ⟨xb, 1 + j, none⟩ = some (.int .i64 u) := by
                  have h2 := (HX2.out.set_ (1 + j) (.int .i64 u)).cell (1 + j)
                  rw [h2, Array.getElem?_setIfInBounds_self_of_lt (by simp [insC]; omega)]
                go_wp2_with fail
                have HV : Hid (argG P n op j (u + 1)) := by
                  have h2 := hArg.out
                  rw [if_pos rfl] at h2
                  exact h2
                have hset : (insC op l).setIfInBounds (1 + j) (.int .i64 (u + 1)) = insC op (l ++ [(u + 1)]) := insC_set op _ l j hl (by omega)
                go_roundw
                case rel =>
                  refine ⟨j + 1, by omega, by go_num, l ++ [(u + 1)], by simp [hl], ?_, ?_, ?_, ?_⟩
                  · intro t ht
                    by_cases htj : t = j
                    · subst htj
                      rw [List.getD_eq_getElem?_getD, List.getElem?_append_right (by omega), hl]
                      simpa using HV.out
                    · have := HAr.out t (by omega)
                      rw [List.getD_eq_getElem?_getD, List.getElem?_append_left (by omega)]
                      rw [List.getD_eq_getElem?_getD] at this
                      exact this
                  · exact HXn.out
                  · exact HSn.out
                  · exact HKn.out
                case measure => simp [intOf]; omega
              · have t5 : ((q : Int) == 5) = false := by simp; omega
                have hArg2 : argG P n op j u := by have := hArg.out; rwa [if_neg h5] at this
                by_cases hop26 : op = 26
                · have t26 : (op == 26) = true := by simpa using hop26
                  by_cases hneg : x.arg j < 0
                  · have tn : decide (x.arg j < 0) = true := by simpa using hneg
                    have HXn : Hid (Blk ((wr2.setCell ⟨xb, 1 + j, none⟩ (.int .i64 u)).setCell ⟨xb, 1 + j, none⟩ (.int .i64 65535)) xb 110 (insC op (l ++ [65535]))) := by
                      have h2 := (HX2.out.set_ (1 + j) (.int .i64 u)).set_ (1 + j) (.int .i64 65535)
                      rw [Array.setIfInBounds_setIfInBounds, insC_set op _ l j hl (by omega)] at h2
                      exact h2
                    have kk := ((Keeps.refl wr2 [xb]).setCell (p := ⟨xb, 1 + j, none⟩) (.inl (by simp)) (.int .i64 u)).setCell (p := ⟨xb, 1 + j, none⟩) (.inl (by simp)) (.int .i64 65535)
                    have HSn := Lib.hid (HS2.out.past kk (fun q hq => by simp at hq; subst hq; exact ⟨hxb, hxb3, hxb4⟩))
                    have HKn := Lib.hid (HK2.out.trans kk)
                    have x1b : World.cell? (wr2.setCell ⟨xb, 1 + j, none⟩ (.int .i64 u)) ⟨xb, 1 + j, none⟩ = some (.int .i64 u) := by
                      have h2 := (HX2.out.set_ (1 + j) (.int .i64 u)).cell (1 + j)
                      rw [h2, Array.getElem?_setIfInBounds_self_of_lt (by simp [insC]; omega)]
                    go_wp2_with fail
                    have HV : Hid (argG P n op j 65535) := by
                      have h2 := HY.out
                      rw [hop26] at h2
                      show argG P n op j 65535
                      rw [hop26]
                      exact arg_none h2
                    have hset : (insC op l).setIfInBounds (1 + j) (.int .i64 65535) = insC op (l ++ [65535]) := insC_set op _ l j hl (by omega)
                    go_roundw
                    case rel =>
                      refine ⟨j + 1, by omega, by go_num, l ++ [65535], by simp [hl], ?_, ?_, ?_, ?_⟩
                      · intro t ht
                        by_cases htj : t = j
                        · subst htj
                          rw [List.getD_eq_getElem?_getD, List.getElem?_append_right (by omega), hl]
                          simpa using HV.out
                        · have := HAr.out t (by omega)
                          rw [List.getD_eq_getElem?_getD, List.getElem?_append_left (by omega)]
                          rw [List.getD_eq_getElem?_getD] at this
                          exact this
                      · exact HXn.out
                      · exact HSn.out
                      · exact HKn.out
                    case measure => simp [intOf]; omega
                  · have tn : decide (x.arg j < 0) = false := by simpa using hneg
                    have HXn : Hid (Blk (wr2.setCell ⟨xb, 1 + j, none⟩ (.int .i64 u)) xb 110 (insC op (l ++ [u]))) := by
                      have h2 := HX2.out.set_ (1 + j) (.int .i64 u)
                      rw [insC_set op _ l j hl (by omega)] at h2
                      exact h2
                    have kk := (Keeps.refl wr2 [xb]).setCell (p := ⟨xb, 1 + j, none⟩) (.inl (by simp)) (.int .i64 u)
                    have HSn := Lib.hid (HS2.out.past kk (fun q hq => by simp at hq; subst hq; exact ⟨hxb, hxb3, hxb4⟩))
                    have HKn := Lib.hid (HK2.out.trans kk)
                    go_wp2_with fail
                    have HV := Lib.hid (hArg2)
                    have hset : (insC op l).setIfInBounds (1 + j) (.int .i64 u) = insC op (l ++ [u]) := insC_set op _ l j hl (by omega)
                    go_roundw
                    case rel =>
                      refine ⟨j + 1, by omega, by go_num, l ++ [u], by simp [hl], ?_, ?_, ?_, ?_⟩
                      · intro t ht
                        by_cases htj : t = j
                        · subst htj
                          rw [List.getD_eq_getElem?_getD, List.getElem?_append_right (by omega), hl]
                          simpa using HV.out
                        · have := HAr.out t (by omega)
                          rw [List.getD_eq_getElem?_getD, List.getElem?_append_left (by omega)]
                          rw [List.getD_eq_getElem?_getD] at this
                          exact this
                      · exact HXn.out
                      · exact HSn.out
                      · exact HKn.out
                    case measure => simp [intOf]; omega
                · have t26 : (op == 26) = false := by simpa using hop26
                  have HXn : Hid (Blk (wr2.setCell ⟨xb, 1 + j, none⟩ (.int .i64 u)) xb 110 (insC op (l ++ [u]))) := by
                    have h2 := HX2.out.set_ (1 + j) (.int .i64 u)
                    rw [insC_set op _ l j hl (by omega)] at h2
                    exact h2
                  have kk := (Keeps.refl wr2 [xb]).setCell (p := ⟨xb, 1 + j, none⟩) (.inl (by simp)) (.int .i64 u)
                  have HSn := Lib.hid (HS2.out.past kk (fun q hq => by simp at hq; subst hq; exact ⟨hxb, hxb3, hxb4⟩))
                  have HKn := Lib.hid (HK2.out.trans kk)
                  go_wp2_with fail
                  have HV := Lib.hid (hArg2)
                  have hset : (insC op l).setIfInBounds (1 + j) (.int .i64 u) = insC op (l ++ [u]) := insC_set op _ l j hl (by omega)
                  go_roundw
                  case rel =>
                    refine ⟨j + 1, by omega, by go_num, l ++ [u], by simp [hl], ?_, ?_, ?_, ?_⟩
                    · intro t ht
                      by_cases htj : t = j
                      · subst htj
                        rw [List.getD_eq_getElem?_getD, List.getElem?_append_right (by omega), hl]
                        simpa using HV.out
                      · have := HAr.out t (by omega)
                        rw [List.getD_eq_getElem?_getD, List.getElem?_append_left (by omega)]
                        rw [List.getD_eq_getElem?_getD] at this
                        exact this
                    · exact HXn.out
                    · exact HSn.out
                    · exact HKn.out
                  case measure => simp [intOf]; omega
          · obtain rfl : m = j := by omega
            have hX := insG_of (P := P) (n := n) hop HM.out hl HAr.out
            have HXg := Lib.hid hX
            obtain ⟨g, hAg⟩ : ∃ g, A4 = some ⟨g, 0, none⟩ := by
              rcases HS.out.r4.2 with ⟨h2, h3⟩ | ⟨g, cap, cur, h2, _⟩
              · omega
              · injection h2 with h2
                exact ⟨g, h2⟩
            subst hAg
            have hcell : ∀ t, t < 5 → ∃ v, World.cell? wr ⟨g, k * 5 + t, none⟩ = some v := fun t ht => by
              have h2 := HS.out.r4.cellAt (k * 5 + t) (by omega)
              rw [getElem?_flat insE_len is k (by omega) t ht] at h2
              exact ⟨_, h2.trans (List.getElem?_eq_getElem (by rw [insE_len]; exact ht))⟩
            obtain ⟨v0, y0⟩ := hcell 0 (by omega)
            obtain ⟨v1, y1⟩ := hcell 1 (by omega)
            obtain ⟨v2, y2⟩ := hcell 2 (by omega)
            obtain ⟨v3, y3⟩ := hcell 3 (by omega)
            obtain ⟨v4, y4⟩ := hcell 4 (by omega)
            have w0 := HS.out.r4.frozenAt (k * 5)
            have w1 := HS.out.r4.frozenAt (k * 5 + 1)
            have w2 := HS.out.r4.frozenAt (k * 5 + 2)
            have w3' := HS.out.r4.frozenAt (k * 5 + 3)
            have w4 := HS.out.r4.frozenAt (k * 5 + 4)
            rw [Nat.add_zero] at y0
            have z0 : World.cell? wr ⟨xb, 0, none⟩ = some (.int .i64 op) := HX.out.cell 0
            have z1 : World.cell? wr ⟨xb, 1, none⟩ = some (.int .i64 (l.getD 0 0)) := HX.out.cell 1
            have z2 : World.cell? wr ⟨xb, 2, none⟩ = some (.int .i64 (l.getD 1 0)) := HX.out.cell 2
            have z3 : World.cell? wr ⟨xb, 3, none⟩ = some (.int .i64 (l.getD 2 0)) := HX.out.cell 3
            have z4 : World.cell? wr ⟨xb, 4, none⟩ = some (.int .i64 (l.getD 3 0)) := HX.out.cell 4
            have o3 := HS.out.out.cell 3
            have hlay : FxSt w (((((wr.setCell ⟨g, k * 5, none⟩ (.int .i64 op)).setCell ⟨g, k * 5 + 1, none⟩ (.int .i64 (l.getD 0 0))).setCell ⟨g, k * 5 + 2, none⟩ (.int .i64 (l.getD 1 0))).setCell ⟨g, k * 5 + 3, none⟩ (.int .i64 (l.getD 2 0))).setCell ⟨g, k * 5 + 4, none⟩ (.int .i64 (l.getD 3 0))) #[.slice Aa na ca, .slice Af nf cf, .slice Ap np cp, .slice (some ⟨b, off, none⟩) nc cc] A3 (some ⟨g, 0, none⟩) P n c3 c4 ps (is.set k (insOf op l)) := HS.out.lay rfl hk hil (insOf op l)
            have HLay := Lib.hid hlay
            have b7' : (k : Int) < (n : Int) := by omega
            clear hcell hlay hX
            go_wp2_with fail
            go_roundw
            case rel => exact ⟨k + 1, by go_num, by omega, is.set k (insOf op l), by simp [hil], set_take_all HI.out HXg.out, HLay.out⟩
            case measure => simp [intOf]; omega
      · have d0 : decide ((k : Int) < (n : Int)) = false := by simp only [decide_eq_false_iff_not]; omega
        obtain rfl : n = k := by omega
        have HI2 : Hid (∀ x ∈ is, insG P n x) := by
          have h2 := HI.out
          rw [List.take_of_length_le (by omega)] at h2
          exact h2
        go_wp2_with fail
        go_meet
        exact ⟨is, hil, HI2.out, HS.out⟩
  case rest =>
  obtain ⟨is, hil, hall, hst⟩ := hcut
  clear HST
  have HST := Lib.hid hst
  have HAll := Lib.hid hall
  have p0 := hst.out.cell 0
  have p1 := hst.out.cell 1
  have p2 := hst.out.cell 2
  have p3 := hst.out.cell 3
  have x0 := hst.res.frozen 0
  have x1 := hst.res.frozen 1
  have x2 := hst.res.frozen 2
  have x3 := hst.res.frozen 3
  have v0 := hst.res.cell 0
  have v1 := hst.res.cell 1
  have v2 := hst.res.cell 2
  have v3 := hst.res.cell 3
  clear hst hall
  go_wp2_with fail
  clear p0 p1 p2 p3 x0 x1 x2 x3 v0 v1 v2 v3
  obtain ⟨hB, hk1⟩ := arr4_set (v0 := .slice (some ⟨w.heap.size + 1 + 1 + 1, 0, none⟩) 3 3) (v1 := .slice (some ⟨w.heap.size + 1 + 1 + 1 + 1, 0, none⟩) 2 2) (v2 := .slice A3 P c3) (v3 := .slice A4 n c4) HST.out.res
  have hK := HST.out.keep.past hk1 (fun q hq => by simp at hq; simp; omega)
  have hob : ObIs _ ⟨fixA, fixF, ps, is⟩ (some ⟨w.heap.size + 1 + 1 + 1, 0, none⟩) (some ⟨w.heap.size + 1 + 1 + 1 + 1, 0, none⟩) A3 A4 3 2 c3 c4 :=
    ⟨Rd.of_blk (HST.out.ats.keep hk1 (by simp; omega)), Rd.of_blk (HST.out.fus.keep hk1 (by simp; omega)), own_off HST.out.r3 HST.out.res (by decide) hk1, own_off HST.out.r4 HST.out.res (by decide) hk1, (fun h => by cases h), (fun h => by cases h), own_none0 HST.out.r3, own_none0 HST.out.r4⟩
  generalize World.setCell _ ⟨w.heap.size + 1, 3, none⟩ _ = W at *
  have y0 : World.cell? W ⟨w.heap.size + 1, 0, none⟩ = _ := hB.cell 0
  have y1 : World.cell? W ⟨w.heap.size + 1, 1, none⟩ = _ := hB.cell 1
  have y2 : World.cell? W ⟨w.heap.size + 1, 2, none⟩ = _ := hB.cell 2
  have y3 : World.cell? W ⟨w.heap.size + 1, 3, none⟩ = _ := hB.cell 3
  refine bodyPost_ret (v := .agg #[.slice (some ⟨w.heap.size + 1 + 1 + 1, 0, none⟩) 3 3, .slice (some ⟨w.heap.size + 1 + 1 + 1 + 1, 0, none⟩) 2 2, .slice A3 P c3, .slice A4 n c4]) (by simp [results, Try.results18, go_sem, y0, y1, y2, y3]) rfl ?_
  have hpl := HPs.out.len
  refine ⟨⟨fixA, fixF, ps, is⟩, fix_check rfl rfl HPs.out hil hn30 HAll.out, ⟨(by show 3 ≤ 65536; omega), (by show 2 ≤ 65536; omega), (by show ps.length ≤ 65536; omega), (by show is.length ≤ 65536; omega)⟩, _, _, A3, A4, 3, 2, c3, c4, ?_, hob, ?_, hK⟩
  · show _ = Ending.returned (.agg #[.slice _ 3 3, .slice _ 2 2, .slice A3 ps.length c3, .slice A4 is.length c4])
    rw [hpl, hil]
  · intro a ha
    rcases ha with h | h | h | h
    · injection h with h; subst h; simp; omega
    · injection h with h; subst h; simp; omega
    · subst h; exact own_low HST.out.r3
    · subst h; exact own_low HST.out.r4
theorem fix_any (o : LObj) (Aa Af Ap Ac : Option Addr) (ca cf cp cc : Nat) (w : World) (h : ObIs w o Aa Af Ap Ac ca cf cp cc) (hg : GoodO o) :
    Calls Try.prog 18 #[.agg #[.slice Aa o.atoms.length ca, .slice Af o.funs.length cf, .slice Ap o.preds.length cp, .slice Ac o.code.length cc]] w (FixDone w) :=
  fix_step o Aa Af Ap Ac _ _ _ _ ca cf cp cc w h hg rfl rfl rfl rfl (fun _ o' Ba Bf Bp Bc da df dp dc w' h' hg' hp =>
    fix_step o' Ba Bf Bp Bc _ _ _ _ da df dp dc w' h' hg' rfl rfl rfl rfl (fun h0 => absurd h0 (by omega)))
end Go.Proofs.Ytdcjiohbnnipdaa
