/- Lines become an object: the document's Program. Printed by gen_rsprog.py. -/
import Derived.Test.YtpcihhdalofdiaaGreatDoorJQ13
namespace Go.Proofs.YtpcihhdalofdiaaGreatDoor
open Go.RowKit Go.Maps
attribute [local irreducible] rsCells numT kindsOf nameOf checkE fitsP operandP plainP labelP slashP namedT

theorem RsM.ob2 {w0 w w2 : World} {ab : Nat} {AA FA PA CA UA BA : Option Addr} {ca cf cp cc cu cb : Nat} {S : AS} {M : List Nat} (h : RsM w0 w ab AA FA PA CA UA BA ca cf cp cc cu cb S) (k : Keeps w w2 M) (hM : ∀ b ∈ M, b < w0.heap.size) : ObIs w2 S.o AA FA PA CA ca cf cp cc := by
  have hn : ∀ {n size c : Nat} {e : TypeId} {A : Option Addr} {xs : List Value}, w.ownsRow w0.heap.size e size (.slice A n c) n xs → ∀ b ∈ M, b ∉ ownL (.slice A 0 0) := fun ho b hb hm => by
    have h1 := (own_ltA ho b hm).1
    have h2 := hM b hb
    omega
  exact ⟨Rd.of_own (own_keepA h.atoms k (hn h.atoms)), Rd.of_own (own_keepA h.funs k (hn h.funs)), Rd.of_own (own_keepA h.preds k (hn h.preds)), Rd.of_own (own_keepA h.code k (hn h.code)), fun e => by subst e; exact own_nilA h.atoms, fun e => by subst e; exact own_nilA h.funs, fun e => by subst e; exact own_nilA h.preds, fun e => by subst e; exact own_nilA h.code⟩
set_option maxRecDepth 100000 in
set_option maxHeartbeats 12800000 in
theorem refProgram_any (ls : List ByteArray) (A : Option Addr) (n c : Nat) (w : World) (h : St w) (hl : ls.length = n) (hn : n ≤ 100000) (hA : Rd w A (ls.flatMap strE)) (hsz : ∀ s ∈ ls, s.size ≤ 4294967000) :
    Calls Tryz.prog 9 #[.slice A n c] w (PrDone w (programP (ls.map (·.data.toList)))) := by
  unfold PrDone
  have k0 : Keeps w (w.alloc (.cells #[.slice none 0 0, .slice none 0 0, .slice none 0 0, .slice none 0 0] 39)) [] := (Keeps.refl w []).alloc _
  have hBox : Blk (w.alloc (.cells #[.slice none 0 0, .slice none 0 0, .slice none 0 0, .slice none 0 0] 39)) w.heap.size 39 #[.slice none 0 0, .slice none 0 0, .slice none 0 0, .slice none 0 0] := Blk.new _ _ _
  obtain ⟨w0, hw0⟩ : ∃ w0, w0 = (w.alloc (.cells #[.slice none 0 0, .slice none 0 0, .slice none 0 0, .slice none 0 0] 39)) := ⟨_, rfl⟩
  have hs0 : w0.heap.size = w.heap.size + 1 := by rw [hw0, World.size_alloc]
  have HAs : Hid (Rs w0 ((w.alloc (.cells #[.slice none 0 0, .slice none 0 0, .slice none 0 0, .slice none 0 0] 39)).alloc (.cells Tryz.zeroCells67 67)) (w.heap.size + 1) [w.heap.size + 1] (fun _ => 0) AS0) := by
    have e1 : (w.alloc (.cells #[.slice none 0 0, .slice none 0 0, .slice none 0 0, .slice none 0 0] 39)).heap.size = w.heap.size + 1 := by rw [World.size_alloc]
    have b2 : Blk ((w.alloc (.cells #[.slice none 0 0, .slice none 0 0, .slice none 0 0, .slice none 0 0] 39)).alloc (.cells Tryz.zeroCells67 67)) (w.heap.size + 1) 67 (Tryz.zeroCells67) := Blk.newAt _ _ e1.symm
    rw [zero_rs] at b2 ⊢
    have oz : ∀ (e : TypeId) (sz : Nat), World.ownsRow ((w.alloc (.cells #[.slice none 0 0, .slice none 0 0, .slice none 0 0, .slice none 0 0] 39)).alloc (.cells (rsCells (.slice none 0 0) (.slice none 0 0) (.slice none 0 0) (.slice none 0 0) (fun _ => none) (.slice none 0 0) (.slice none 0 0)) 67)) w0.heap.size e sz (.slice none 0 0) 0 [] := fun e sz => World.ownsRow_nil _ _ _ _
    refine ⟨none, none, none, none, none, none, 0, 0, 0, 0, 0, 0, ⟨b2, oz _ _, oz _ _, oz _ _, oz _ _, oz _ _, oz _ _, by omega, ?_, ?_⟩, OkP.zero _ _ _ _ _ _, ?_, ?_⟩
    · rw [hw0]
      exact ((Keeps.refl (w.alloc (.cells #[.slice none 0 0, .slice none 0 0, .slice none 0 0, .slice none 0 0] 39)) []).alloc _).toBelow
    · rw [hw0]
      exact h.keep k0
    · intro b hb
      simpa [rsL, ownL, Value.ownBlock] using hb
    · intro b hb
      simp only [List.mem_cons, List.not_mem_nil, or_false] at hb
      rw [World.size_alloc, e1]
      omega
  have HBox : Hid (Blk w0 w.heap.size 39 #[.slice none 0 0, .slice none 0 0, .slice none 0 0, .slice none 0 0]) := Lib.hid (by rw [hw0]; exact hBox)
  have HK0 : Hid (Keeps w w0 []) := Lib.hid (by rw [hw0]; exact k0)
  have HS0 := Lib.hid hs0
  have HL := Lib.hid hl
  have HA := Lib.hid hA
  have HSz := Lib.hid hsz
  obtain ⟨T, hT⟩ : ∃ T, ls.map (·.data.toList) = T := ⟨_, rfl⟩
  have HT := Lib.hid hT
  have HTl : Hid (T.length = n) := Lib.hid (by rw [← hT, List.length_map, hl])
  rw [hT]
  clear k0 hBox hs0 hw0 h hl hA hsz hT
  go_enter Tryz.func9, Tryz.ntmps9
  go_upto_region 2 with fail
  generalize ((w.alloc (.cells #[.slice none 0 0, .slice none 0 0, .slice none 0 0, .slice none 0 0] 39)).alloc (.cells Tryz.zeroCells67 67)) = w2 at *
  have HAb : Hid (w.heap.size + 1 < w2.heap.size) := Lib.hid ((HAs.out.lt _ (by simp)).2)
  have HLo0 : Hid (w.heap.size < w0.heap.size) := Lib.hid (by rw [HS0.out]; omega)
  clear HS0
  generalize w.heap.size + 1 = ab at *
  go_wp2_with fail
  go_loopw [6, 7] (fun i v7 wr => ∃ k : Nat, k ≤ n ∧ i = .int .i64 k ∧ ∃ L S, Rs w0 wr ab L (fun _ => 0) S ∧ Good S k ∧ RsI S k ∧ Hid (linesP S k (T.drop k) = linesP AS0 0 T)) (fun i _ _ => n - (intOf i).toNat)
  case atStart => exact ⟨0, Nat.zero_le _, rfl, _, _, HAs.out, Good.start, RsI.start, rfl⟩
  case round =>
    clear HAs HAb w2
    obtain ⟨k, hk, rfl, L, S, hAs, hG, hI, HLs⟩ := hrel
    have HAs := Lib.hid hAs
    have HG := Lib.hid hG
    have HI := Lib.hid hI
    have HBe := Lib.hid hAs.bel
    have HBoxR : Hid (Blk wr w.heap.size 39 #[.slice none 0 0, .slice none 0 0, .slice none 0 0, .slice none 0 0]) := Lib.hid ((HBe.out.block _ HLo0.out).trans HBox.out)
    have HKr : Hid (Keeps w wr []) := Lib.hid (HK0.out.trans (Keeps.nil_of HBe.out))
    clear hAs hG hI
    by_cases hlk : k < n
    · obtain ⟨s, hs⟩ := at_of HL.out hlk
      obtain ⟨b, off, rfl, hb, hc⟩ := (HA.out.keep HKr.out).field strE_len hs (by omega)
      obtain p0 : wr.cell? ⟨b, off + k, none⟩ = some (.string s) := by have := hc 0 _ rfl; simpa using this
      have HTd : Hid (T.drop k = s.data.toList :: T.drop (k + 1)) := Lib.hid (by
        rw [List.drop_eq_getElem_cons (by rw [HTl.out]; exact hlk)]
        congr 1
        have h1 : T[k]? = some s.data.toList := by rw [← HT.out, List.getElem?_map, hs]; rfl
        exact (List.getElem?_eq_some_iff.1 h1).2)
      have HLn := Lib.hid (lineR_any HAs.out (HG.out.toFew (by omega)) s (HSz.out s (List.mem_of_getElem? hs)) k)
      obtain ⟨r, hr⟩ : ∃ r, lineP S s.data.toList k = r := ⟨_, rfl⟩
      rw [hr] at HLn
      have HLs2 : Hid ((if r.2 ≠ 0 then (S, r.2, (k : Int)) else if fullP r.1.o then (S, 2, (k : Int)) else linesP r.1 (k + 1) (T.drop (k + 1))) = linesP AS0 0 T) := Lib.hid (by
        have h1 := HLs.out
        rw [HTd.out, lines_cons, hr] at h1
        exact h1)
      have HGl : Hid (fullP r.1.o = false → Good r.1 (k + 1)) := fun h2 => by
        have := HG.out.line s.data.toList (k := k)
        rw [hr] at this
        exact this h2
      have HIl : Hid (RsI r.1 (k + 1)) := Lib.hid (by
        have := HI.out.line s.data.toList
        rw [hr] at this
        exact this)
      have b1 : (k : Int) < (n : Int) := by omega
      have b0 : (0 : Int) ≤ (k : Int) := Int.natCast_nonneg _
      clear hs hb hc hr HLs
      obtain ⟨S1, er⟩ := r
      dsimp only at HLs2 HGl HIl
      go_wp2_with fail
      refine HLn.out.mono ?_
      rintro e w3 ⟨rfl, L3, S3, hA3, hs3, hS3⟩
      have HA3 := Lib.hid hA3
      have HS3 := Lib.hid hS3
      have HBe3 := Lib.hid hA3.bel
      have HBox3 : Hid (Blk w3 w.heap.size 39 #[.slice none 0 0, .slice none 0 0, .slice none 0 0, .slice none 0 0]) := Lib.hid ((HBe3.out.block _ HLo0.out).trans HBox.out)
      have HKr3 : Hid (Keeps w w3 []) := Lib.hid (HK0.out.trans (Keeps.nil_of HBe3.out))
      clear hA3 hs3 hS3 HLn HBoxR HKr HBe HAs
      dsimp only
      by_cases he : er = 0
      case neg =>
        have d0 : (er == 0) = false := by simpa using he
        have d1 : (er != 0) = true := by simpa using he
        have HV := Lib.hid (prog_bad (HLs2.out.symm.trans (if_pos he)) he)
        have HBoxW := Lib.hid HBox3.out
        clear he
        have HBf : Hid (Blk ((((w3.setCell ⟨w.heap.size, 0, none⟩ (.slice none 0 0)).setCell ⟨w.heap.size, 1, none⟩ (.slice none 0 0)).setCell ⟨w.heap.size, 2, none⟩ (.slice none 0 0)).setCell ⟨w.heap.size, 3, none⟩ (.slice none 0 0)) w.heap.size 39 #[.slice none 0 0, .slice none 0 0, .slice none 0 0, .slice none 0 0]) := Lib.hid (((((HBoxW.out.set_ 0 (.slice none 0 0)).set_ 1 (.slice none 0 0)).set_ 2 (.slice none 0 0)).set_ 3 (.slice none 0 0)))
        have HKf : Hid (Keeps w ((((w3.setCell ⟨w.heap.size, 0, none⟩ (.slice none 0 0)).setCell ⟨w.heap.size, 1, none⟩ (.slice none 0 0)).setCell ⟨w.heap.size, 2, none⟩ (.slice none 0 0)).setCell ⟨w.heap.size, 3, none⟩ (.slice none 0 0)) []) := Lib.hid ((((HKr3.out.setCell (p := ⟨w.heap.size, 0, none⟩) (.inr (Nat.le_refl _)) _).setCell (p := ⟨w.heap.size, 1, none⟩) (.inr (Nat.le_refl _)) _).setCell (p := ⟨w.heap.size, 2, none⟩) (.inr (Nat.le_refl _)) _).setCell (p := ⟨w.heap.size, 3, none⟩) (.inr (Nat.le_refl _)) _)
        have f0 := HBoxW.out.frozen 0
        have v0 := HBoxW.out.cell 0
        have f1 := HBoxW.out.frozen 1
        have v1 := HBoxW.out.cell 1
        have f2 := HBoxW.out.frozen 2
        have v2 := HBoxW.out.cell 2
        have f3 := HBoxW.out.frozen 3
        have v3 := HBoxW.out.cell 3
        go_wp2_with fail
        generalize ((((w3.setCell ⟨w.heap.size, 0, none⟩ (.slice none 0 0)).setCell ⟨w.heap.size, 1, none⟩ (.slice none 0 0)).setCell ⟨w.heap.size, 2, none⟩ (.slice none 0 0)).setCell ⟨w.heap.size, 3, none⟩ (.slice none 0 0)) = wF at *
        have y0 := HBf.out.cell 0
        have y1 := HBf.out.cell 1
        have y2 := HBf.out.cell 2
        have y3 := HBf.out.cell 3
        refine bodyPost_ret (v := .tuple #[.agg #[.slice none 0 0, .slice none 0 0, .slice none 0 0, .slice none 0 0], .int .i64 er, .int .i64 k]) (by simp [results, Tryz.results9, go_sem, y0, y1, y2, y3]) rfl ?_
        rw [HV.out]
        exact ⟨none, none, none, none, 0, 0, 0, 0, rfl, ⟨Rd.nil, Rd.nil, Rd.nil, Rd.nil, fun _ => rfl, fun _ => rfl, fun _ => rfl, fun _ => rfl⟩, HKf.out⟩
      have hA4 := HA3.out
      rw [HS3.out he] at hA4
      have HA4 := Lib.hid hA4
      subst he
      have HFu := Lib.hid (fullR_any hA4)
      clear hA4
      cases hfu : fullP S1.o with
      | true =>
        rw [hfu] at HFu
        have HV := Lib.hid (prog_bad (HLs2.out.symm.trans ((if_neg (by decide)).trans (if_pos hfu))) (by decide))
        clear hfu
        go_wp2_with (go_at_call 22; refine HFu.out.mono ?_; rintro e w4 ⟨rfl, k4⟩; have HBoxW := Lib.hid (HBox3.out.keep k4 (by simp)); have HKr4 := Lib.hid (HKr3.out.trans k4); clear k4; have f0 := HBoxW.out.frozen 0; have v0 := HBoxW.out.cell 0; have f1 := HBoxW.out.frozen 1; have v1 := HBoxW.out.cell 1; have f2 := HBoxW.out.frozen 2; have v2 := HBoxW.out.cell 2; have f3 := HBoxW.out.frozen 3; have v3 := HBoxW.out.cell 3)
        have HBf : Hid (Blk ((((w4.setCell ⟨w.heap.size, 0, none⟩ (.slice none 0 0)).setCell ⟨w.heap.size, 1, none⟩ (.slice none 0 0)).setCell ⟨w.heap.size, 2, none⟩ (.slice none 0 0)).setCell ⟨w.heap.size, 3, none⟩ (.slice none 0 0)) w.heap.size 39 #[.slice none 0 0, .slice none 0 0, .slice none 0 0, .slice none 0 0]) := Lib.hid (((((HBoxW.out.set_ 0 (.slice none 0 0)).set_ 1 (.slice none 0 0)).set_ 2 (.slice none 0 0)).set_ 3 (.slice none 0 0)))
        have HKf : Hid (Keeps w ((((w4.setCell ⟨w.heap.size, 0, none⟩ (.slice none 0 0)).setCell ⟨w.heap.size, 1, none⟩ (.slice none 0 0)).setCell ⟨w.heap.size, 2, none⟩ (.slice none 0 0)).setCell ⟨w.heap.size, 3, none⟩ (.slice none 0 0)) []) := Lib.hid ((((HKr4.out.setCell (p := ⟨w.heap.size, 0, none⟩) (.inr (Nat.le_refl _)) _).setCell (p := ⟨w.heap.size, 1, none⟩) (.inr (Nat.le_refl _)) _).setCell (p := ⟨w.heap.size, 2, none⟩) (.inr (Nat.le_refl _)) _).setCell (p := ⟨w.heap.size, 3, none⟩) (.inr (Nat.le_refl _)) _)
        generalize ((((w4.setCell ⟨w.heap.size, 0, none⟩ (.slice none 0 0)).setCell ⟨w.heap.size, 1, none⟩ (.slice none 0 0)).setCell ⟨w.heap.size, 2, none⟩ (.slice none 0 0)).setCell ⟨w.heap.size, 3, none⟩ (.slice none 0 0)) = wF at *
        have y0 := HBf.out.cell 0
        have y1 := HBf.out.cell 1
        have y2 := HBf.out.cell 2
        have y3 := HBf.out.cell 3
        refine bodyPost_ret (v := .tuple #[.agg #[.slice none 0 0, .slice none 0 0, .slice none 0 0, .slice none 0 0], .int .i64 2, .int .i64 k]) (by simp [results, Tryz.results9, go_sem, y0, y1, y2, y3]) rfl ?_
        rw [HV.out]
        exact ⟨none, none, none, none, 0, 0, 0, 0, rfl, ⟨Rd.nil, Rd.nil, Rd.nil, Rd.nil, fun _ => rfl, fun _ => rfl, fun _ => rfl, fun _ => rfl⟩, HKf.out⟩
      | false =>
        rw [hfu] at HFu
        have HLs3 := HLs2.out
        rw [if_neg (by decide), hfu] at HLs3
        have HLs4 : Hid (linesP S1 (k + 1) (T.drop (k + 1)) = linesP AS0 0 T) := Lib.hid HLs3
        have HGk := Lib.hid (HGl.out hfu)
        clear hfu HLs3
        go_wp2_with (go_at_call 22; refine HFu.out.mono ?_; rintro e w4 ⟨rfl, k4⟩; have HA5 := Lib.hid (HA4.out.keep0 k4); clear k4)
        go_roundw
        case rel => exact ⟨k + 1, by omega, by go_num, _, _, HA5.out, HGk.out, HIl.out, HLs4⟩
        case measure => simp [intOf]; omega
    · obtain rfl : n = k := by omega
      have hE : linesP AS0 0 T = (S, 0, -1) := by
        have h1 := HLs.out
        rw [List.drop_of_length_le (by rw [HTl.out]; exact Nat.le_refl _)] at h1
        exact h1.symm
      have HPr := Lib.hid (prog_settle hE)
      have HGo := Lib.hid (@settle_good S)
      have HEnd := Lib.hid (scan_end HI.out)
      obtain ⟨w3, hw3⟩ : ∃ w3, w3 = wr := ⟨wr, rfl⟩
      subst hw3
      obtain ⟨AA, FA, PA, CA, UA, BA, ca, cf, cp, cc, cu, cb, hm, hok, hL, hlt⟩ := HAs.out
      have HM := Lib.hid hm
      have HLL := Lib.hid hL
      obtain ⟨nc, hnc⟩ : ∃ k, S.o.code.length = k := ⟨_, rfl⟩
      obtain ⟨nu, hnu⟩ : ∃ k, S.uses.length = k := ⟨_, rfl⟩
      obtain ⟨nb, hnb⟩ : ∃ k, S.begins.length = k := ⟨_, rfl⟩
      obtain ⟨np, hnp⟩ : ∃ k, S.o.preds.length = k := ⟨_, rfl⟩
      have HNc := Lib.hid hnc
      have HNu := Lib.hid hnu
      have HNb := Lib.hid hnb
      have HNp := Lib.hid hnp
      have HFe := Lib.hid (HG.out.toFew hn)
      have q3 := hm.c3
      rw [hnc] at q3
      have HFw : Hid (nc ≤ 60000 ∧ nu ≤ 1000000 ∧ nb ≤ 1000000 ∧ np ≤ 60000) := Lib.hid (by
        have h1 := HFe.out.code
        have h2 := HFe.out.uses
        have h3 := HFe.out.begins
        have h4 := HFe.out.preds
        omega)
      have hnu9 : nu ≤ 1000000 := HFw.out.2.1
      have hnb9 : nb ≤ 1000000 := HFw.out.2.2.1
      clear hE HLs hlk hk hm hok hL hlt hnc hnu hnb hnp
      go_wp2_with fail
      clear q3
      go_loopw [9, 10, 11, 12, 13, 14, 15] (fun v9 v10 v11 v12 v13 v14 v15 wr => ∃ i : Nat, i ≤ n ∧ v9 = .int .i64 i ∧ Hid (∀ y ∈ wrongs S, i ≤ y.2) ∧ Keeps w3 wr []) (fun v9 _ _ _ _ _ _ _ => n - (intOf v9).toNat)
      case atStart => exact ⟨0, Nat.zero_le _, rfl, fun y hy => Nat.zero_le _, Keeps.refl _ _⟩
      case round =>
        obtain ⟨i, hi, rfl, HLow, kr⟩ := hrel
        have HKi := Lib.hid kr
        clear kr
        by_cases hin : i < n
        · have b1 : (i : Int) < (n : Int) := by omega
          have b0 : (0 : Int) ≤ (i : Int) := Int.natCast_nonneg _
          have HMi := Lib.hid (HM.out.keep0 HKi.out)
          have q4 := HMi.out.cellU
          rw [HNu.out] at q4
          go_wp2_with fail
          go_loopw [10, 11, 12] (fun v10 v11 v12 wr => ∃ j : Nat, j ≤ nu ∧ v10 = .int .i64 j ∧ Hid (∀ u ∈ S.uses.take j, u.2.2 = i → badUse S u = false) ∧ Keeps w3 wr []) (fun v10 _ _ _ => nu - (intOf v10).toNat)
          case atStart => exact ⟨0, Nat.zero_le _, rfl, fun u hu => by simp at hu, HKi.out⟩
          case round =>
            clear q4 HMi HKi
            obtain ⟨j, hj, rfl, HNo, kr⟩ := hrel
            have HKj := Lib.hid kr
            have HMr := Lib.hid (HM.out.keep0 HKj.out)
            have q4 := HMr.out.cellU
            rw [HNu.out] at q4
            clear kr
            by_cases hlj : j < nu
            · obtain ⟨u, hu⟩ := at_of HNu.out hlj
              obtain ⟨b, off, hUA, hb, hc⟩ := (Rd.of_own HMr.out.uses).field useE_len hu (by omega)
              obtain ⟨hu4, hu5, ii, hii, hx0, hx1⟩ := HI.out.uses u (List.mem_of_getElem? hu)
              have hni : ∀ (hq : u.2.2 = i → badUse S u = false), ∀ y ∈ S.uses.take (j + 1), y.2.2 = i → badUse S y = false := fun hq y hy e => by
                rw [take_snocA hu] at hy
                rcases List.mem_append.1 hy with hy | hy
                · exact HNo.out y hy e
                · obtain rfl := List.mem_singleton.1 hy
                  exact hq e
              have HNi := Lib.hid hni
              have HHit : Hid (u.2.2 = i → badUse S u = true → least (0, -1) (wrongs S) = (10, (i : Int))) := Lib.hid (fun e1 e2 => scan_use HLow.out hu e1 e2)
              have HBs : Hid (badUse S u = ((S.labels (ii.arg u.2.1)).map fun p => decide (nc ≤ p)).getD true) := Lib.hid (by
                have h1 : useAt S u = S.labels (ii.arg u.2.1) := by
                  unfold useAt
                  rw [List.getD_eq_getElem?_getD, hii]
                  rfl
                unfold badUse
                rw [h1, HNc.out]
                cases S.labels (ii.arg u.2.1) <;> rfl)
              have huc : u.1 < nc := by have := (List.getElem?_eq_some_iff.1 hii).1; rw [HNc.out] at this; exact this
              obtain ⟨gc, hCA, hcap⟩ := own_atA HMr.out.code (by rw [HNc.out]; omega)
              obtain ⟨b2, off2, e2, hb2, hc2⟩ := (Rd.of_own HMr.out.code).field insE_len hii (by omega)
              rw [hCA] at e2
              injection e2 with e2
              injection e2 with e3 e4
              subst e3 e4
              have y0 := hc2 (1 + u.2.1) _ (insE_arg ii u.2.1 hu4)
              rw [Nat.zero_add, ← Nat.add_assoc] at y0
              obtain ⟨x, hx⟩ : ∃ x : Nat, ii.arg u.2.1 = (x : Int) := Int.eq_ofNat_of_zero_le hx0
              rw [hx] at y0 hx1 HBs
              have yl := HMr.out.cl (n := x) (by omega)
              have y3 := HMr.out.c3
              rw [HNc.out, hCA] at y3
              subst hUA
              obtain ⟨u1, u2, u3⟩ := u
              dsimp only at y0 hu4 hu5 huc HNi HHit hx
              have p0 : wr.cell? ⟨b, off + j * 3, none⟩ = some (.int .i64 u1) := hc 0 _ rfl
              have p1 : wr.cell? ⟨b, off + j * 3 + 1, none⟩ = some (.int .i64 u2) := hc 1 _ rfl
              have p2 : wr.cell? ⟨b, off + j * 3 + 2, none⟩ = some (.int .i64 u3) := hc 2 _ rfl
              obtain ⟨o, ho⟩ : ∃ o, S.labels (x : Int) = o := ⟨_, rfl⟩
              rw [ho] at yl HBs
              obtain ⟨vl, hvl⟩ : ∃ vl : Int, labV o = .int .i64 vl := ⟨_, rfl⟩
              rw [hvl] at yl
              have HVl := Lib.hid hvl
              clear hvl
              have k5 : Keeps wr (wr.alloc (.cells #[.int .i64 u1, .int .i64 u2, .int .i64 u3] 69)) [] := (Keeps.refl wr []).alloc _
              have HBx : Hid (Blk (wr.alloc (.cells #[.int .i64 u1, .int .i64 u2, .int .i64 u3] 69)) wr.heap.size 69 #[.int .i64 u1, .int .i64 u2, .int .i64 u3]) := Blk.new _ _ _
              have HK5 := Lib.hid (HKj.out.trans k5)
              have HF : Hid (∀ bx W, bx = wr.heap.size → Keeps (wr.alloc (.cells #[.int .i64 u1, .int .i64 u2, .int .i64 u3] 69)) W [] → W.cell? ⟨ab, 3, none⟩ = some (.slice (some ⟨gc, 0, none⟩) nc cc) ∧ W.cell? ⟨bx, 0, none⟩ = some (.int .i64 u1) ∧ W.cell? ⟨bx, 1, none⟩ = some (.int .i64 u2) ∧ W.cell? ⟨gc, u1 * 5 + 1 + u2, none⟩ = some (.int .i64 x) ∧ W.cell? ⟨ab, 4 + x, none⟩ = some (.int .i64 vl)) := fun bx W hbx kk => by
                subst hbx
                have kk2 := k5.trans kk
                exact ⟨(kk2.cell0 (block_lt_of_cell y3)).trans y3, (HBx.out.keep kk (by simp)).cell 0, (HBx.out.keep kk (by simp)).cell 1, (kk2.cell0 (block_lt_of_cell y0)).trans y0, (kk2.cell0 (block_lt_of_cell yl)).trans yl⟩
              have b2 : (j : Int) < (nu : Int) := by omega
              have b3 : (0 : Int) ≤ (j : Int) := Int.natCast_nonneg _
              clear hc hc2 hii hx hx0 hcap hb hb2 hni y0 yl y3 ho hu k5
              by_cases hui : u3 = i
              case neg =>
                have d1 : ((u3 : Int) == (i : Int)) = false := by rw [beq_eq_false_iff_ne]; omega
                have d2 : ((u3 : Int) != (i : Int)) = true := by rw [bne_iff_ne]; omega
                go_wp2_with fail
                go_roundw
                case rel => exact ⟨j + 1, by omega, by go_num, HNi.out (fun e => absurd e hui), HK5.out⟩
                case measure => simp [intOf]; omega
              have d1 : ((u3 : Int) == (i : Int)) = true := by rw [beq_iff_eq]; omega
              have d2 : ((u3 : Int) != (i : Int)) = false := by rw [bne_eq_false_iff_eq]; omega
              have b4 : (0 : Int) ≤ (u1 : Int) := Int.natCast_nonneg _
              have b5 : (u1 : Int) < (nc : Int) := by omega
              have b6 : (0 : Int) ≤ (u2 : Int) := Int.natCast_nonneg _
              have b7 : (u2 : Int) < 4 := by omega
              have b8 : (0 : Int) ≤ (x : Int) := Int.natCast_nonneg _
              have b9 : (x : Int) < 1024 := by omega
              have HHit2 := Lib.hid (HHit.out hui)
              have HNi2 := Lib.hid (fun h => HNi.out (fun _ => h))
              clear HHit HNi hui
              go_upto_region 19 with fail
              generalize hbx : wr.heap.size = bx at *
              clear q4 p0 p1 p2 d1 d2
              generalize wr.alloc (.cells #[.int .i64 u1, .int .i64 u2, .int .i64 u3] 69) = w5 at *
              refine wp_region_tx (fun W' => W'.cell? ⟨ab, 3, none⟩ = some (.slice (some ⟨gc, 0, none⟩) nc cc) ∧ W'.cell? ⟨bx, 0, none⟩ = some (.int .i64 u1) ∧ W'.cell? ⟨bx, 1, none⟩ = some (.int .i64 u2) ∧ W'.cell? ⟨gc, u1 * 5 + 1 + u2, none⟩ = some (.int .i64 x) ∧ W'.cell? ⟨ab, 4 + x, none⟩ = some (.int .i64 vl)) [(0, true), (1, true), (2, true), (3, true), (4, true), (5, true), (6, true), (7, true), (8, true), (9, true), (10, true), (11, true), (12, true), (13, true), (14, true), (15, true), (16, true), (17, true), (18, false)] (by kernel_rfl) (by kernel_rfl) (HF.out bx _ rfl (Keeps.refl _ _).drew) (fun hHeld => ?_)
              (repeat (first | (refine wpTx_take (v := ?_) rfl (by assumption) ?_ (by rfl) ?_; rotate_left; (focus (intro w' hSw; (try dsimp only at hSw); go_simp; (try with_reducible rfl); done)); simp only [Act.put, List.setIfInBounds_toArray, List.set_cons_zero, List.set_cons_succ]) | (refine wpTx_skip rfl (by assumption) (by rfl) ?_; simp only [Act.put, List.setIfInBounds_toArray, List.set_cons_zero, List.set_cons_succ])))
              refine wpTx_last rfl (fun K hK => ?_)
              go_simp
              refine hK.out _ _ (NoPanic.normal ?_); clear hK K; (try simp only [Act.put, List.setIfInBounds_toArray, List.set_cons_zero, List.set_cons_succ])
              clear hHeld HF
              have HK6 := Lib.hid (HK5.out.trans (Keeps.refl w5 []).drew)
              have HBoxW : Hid (Blk w5.drew w.heap.size 39 #[.slice none 0 0, .slice none 0 0, .slice none 0 0, .slice none 0 0]) := Lib.hid (HBoxR.out.keep HK6.out (by simp))
              have HKrW : Hid (Keeps w w5.drew []) := Lib.hid (HKr.out.trans HK6.out)
              generalize w5.drew = w6 at *
              cases o with
              | none =>
                have hv0 : vl = 0 := by
                  have h1 := HVl.out
                  unfold labV at h1
                  injection h1 with _ h2
                  exact h2.symm
                have c1 : (vl == 0) = true := by rw [beq_iff_eq]; exact hv0
                have h10 := HHit2.out (by rw [HBs.out]; rfl)
                have HV := Lib.hid (HPr.out.trans (if_pos (by rw [h10]; exact (by decide : (10 : Int) ≠ 0))))
                rw [h10] at HV
                clear h10 hv0
                have HBf : Hid (Blk ((((w6.setCell ⟨w.heap.size, 0, none⟩ (.slice none 0 0)).setCell ⟨w.heap.size, 1, none⟩ (.slice none 0 0)).setCell ⟨w.heap.size, 2, none⟩ (.slice none 0 0)).setCell ⟨w.heap.size, 3, none⟩ (.slice none 0 0)) w.heap.size 39 #[.slice none 0 0, .slice none 0 0, .slice none 0 0, .slice none 0 0]) := Lib.hid (((((HBoxW.out.set_ 0 (.slice none 0 0)).set_ 1 (.slice none 0 0)).set_ 2 (.slice none 0 0)).set_ 3 (.slice none 0 0)))
                have HKf : Hid (Keeps w ((((w6.setCell ⟨w.heap.size, 0, none⟩ (.slice none 0 0)).setCell ⟨w.heap.size, 1, none⟩ (.slice none 0 0)).setCell ⟨w.heap.size, 2, none⟩ (.slice none 0 0)).setCell ⟨w.heap.size, 3, none⟩ (.slice none 0 0)) []) := Lib.hid ((((HKrW.out.setCell (p := ⟨w.heap.size, 0, none⟩) (.inr (Nat.le_refl _)) _).setCell (p := ⟨w.heap.size, 1, none⟩) (.inr (Nat.le_refl _)) _).setCell (p := ⟨w.heap.size, 2, none⟩) (.inr (Nat.le_refl _)) _).setCell (p := ⟨w.heap.size, 3, none⟩) (.inr (Nat.le_refl _)) _)
                have f0 := HBoxW.out.frozen 0
                have v0 := HBoxW.out.cell 0
                have f1 := HBoxW.out.frozen 1
                have v1 := HBoxW.out.cell 1
                have f2 := HBoxW.out.frozen 2
                have v2 := HBoxW.out.cell 2
                have f3 := HBoxW.out.frozen 3
                have v3 := HBoxW.out.cell 3
                go_upto_region 21 with fail
                repeat (first | go_values | go_skip | go_guarded | go_step | go_upon)
                generalize ((((w6.setCell ⟨w.heap.size, 0, none⟩ (.slice none 0 0)).setCell ⟨w.heap.size, 1, none⟩ (.slice none 0 0)).setCell ⟨w.heap.size, 2, none⟩ (.slice none 0 0)).setCell ⟨w.heap.size, 3, none⟩ (.slice none 0 0)) = wF at *
                have y0 := HBf.out.cell 0
                have y1 := HBf.out.cell 1
                have y2 := HBf.out.cell 2
                have y3 := HBf.out.cell 3
                refine bodyPost_ret (v := .tuple #[.agg #[.slice none 0 0, .slice none 0 0, .slice none 0 0, .slice none 0 0], .int .i64 10, .int .i64 i]) (by simp [results, Tryz.results9, go_sem, y0, y1, y2, y3]) rfl ?_
                rw [HV.out]
                exact ⟨none, none, none, none, 0, 0, 0, 0, rfl, ⟨Rd.nil, Rd.nil, Rd.nil, Rd.nil, fun _ => rfl, fun _ => rfl, fun _ => rfl, fun _ => rfl⟩, HKf.out⟩
              | some p =>
                have hv0 : vl = (p : Int) + 1 := by
                  have h1 := HVl.out
                  unfold labV at h1
                  injection h1 with _ h2
                  exact h2.symm
                have c1 : (vl == 0) = false := by rw [beq_eq_false_iff_ne]; omega
                by_cases hp : nc ≤ p
                · have c2 : (nc : Int) < vl := by omega
                  have h10 := HHit2.out (by rw [HBs.out]; exact decide_eq_true hp)
                  have HV := Lib.hid (HPr.out.trans (if_pos (by rw [h10]; exact (by decide : (10 : Int) ≠ 0))))
                  rw [h10] at HV
                  clear h10 hv0
                  have HBf : Hid (Blk ((((w6.setCell ⟨w.heap.size, 0, none⟩ (.slice none 0 0)).setCell ⟨w.heap.size, 1, none⟩ (.slice none 0 0)).setCell ⟨w.heap.size, 2, none⟩ (.slice none 0 0)).setCell ⟨w.heap.size, 3, none⟩ (.slice none 0 0)) w.heap.size 39 #[.slice none 0 0, .slice none 0 0, .slice none 0 0, .slice none 0 0]) := Lib.hid (((((HBoxW.out.set_ 0 (.slice none 0 0)).set_ 1 (.slice none 0 0)).set_ 2 (.slice none 0 0)).set_ 3 (.slice none 0 0)))
                  have HKf : Hid (Keeps w ((((w6.setCell ⟨w.heap.size, 0, none⟩ (.slice none 0 0)).setCell ⟨w.heap.size, 1, none⟩ (.slice none 0 0)).setCell ⟨w.heap.size, 2, none⟩ (.slice none 0 0)).setCell ⟨w.heap.size, 3, none⟩ (.slice none 0 0)) []) := Lib.hid ((((HKrW.out.setCell (p := ⟨w.heap.size, 0, none⟩) (.inr (Nat.le_refl _)) _).setCell (p := ⟨w.heap.size, 1, none⟩) (.inr (Nat.le_refl _)) _).setCell (p := ⟨w.heap.size, 2, none⟩) (.inr (Nat.le_refl _)) _).setCell (p := ⟨w.heap.size, 3, none⟩) (.inr (Nat.le_refl _)) _)
                  have f0 := HBoxW.out.frozen 0
                  have v0 := HBoxW.out.cell 0
                  have f1 := HBoxW.out.frozen 1
                  have v1 := HBoxW.out.cell 1
                  have f2 := HBoxW.out.frozen 2
                  have v2 := HBoxW.out.cell 2
                  have f3 := HBoxW.out.frozen 3
                  have v3 := HBoxW.out.cell 3
                  go_upto_region 21 with fail
                  repeat (first | go_values | go_skip | go_guarded | go_step | go_upon)
                  generalize ((((w6.setCell ⟨w.heap.size, 0, none⟩ (.slice none 0 0)).setCell ⟨w.heap.size, 1, none⟩ (.slice none 0 0)).setCell ⟨w.heap.size, 2, none⟩ (.slice none 0 0)).setCell ⟨w.heap.size, 3, none⟩ (.slice none 0 0)) = wF at *
                  have y0 := HBf.out.cell 0
                  have y1 := HBf.out.cell 1
                  have y2 := HBf.out.cell 2
                  have y3 := HBf.out.cell 3
                  refine bodyPost_ret (v := .tuple #[.agg #[.slice none 0 0, .slice none 0 0, .slice none 0 0, .slice none 0 0], .int .i64 10, .int .i64 i]) (by simp [results, Tryz.results9, go_sem, y0, y1, y2, y3]) rfl ?_
                  rw [HV.out]
                  exact ⟨none, none, none, none, 0, 0, 0, 0, rfl, ⟨Rd.nil, Rd.nil, Rd.nil, Rd.nil, fun _ => rfl, fun _ => rfl, fun _ => rfl, fun _ => rfl⟩, HKf.out⟩
                · have c2 : decide ((nc : Int) < vl) = false := decide_eq_false (by omega)
                  clear hv0
                  go_wp2_with fail
                  go_roundw
                  case rel => exact ⟨_, _, _, ⟨j + 1, by omega, by go_num, fun a a1 a2 hm e => HNi2.out (by rw [HBs.out]; exact decide_eq_false hp) (a, a1, a2) hm e, HK6.out⟩, rfl, rfl, rfl⟩
                  case measure => simp [intOf]; omega
            · obtain rfl : nu = j := by omega
              have HNoU : Hid (∀ u ∈ S.uses, u.2.2 = i → badUse S u = false) := Lib.hid (fun u hu => HNo.out u (by rwa [List.take_of_length_le (by rw [HNu.out]; exact Nat.le_refl _)]))
              have q5 := HMr.out.cellB
              rw [HNb.out] at q5
              clear HNo hlj hj
              go_wp2_with fail
              clear q4
              go_loopw [13, 14, 15] (fun v13 v14 v15 wr => ∃ j : Nat, j ≤ nb ∧ v13 = .int .i64 j ∧ Hid (∀ (k : Nat) (b : Nat × Nat), k < j → S.begins[k]? = some b → b.2 = i → ¬ BegBad S k b) ∧ Keeps w3 wr []) (fun v13 _ _ _ => nb - (intOf v13).toNat)
              case atStart => exact ⟨0, Nat.zero_le _, rfl, fun k b hk => absurd hk (Nat.not_lt_zero _), HKj.out⟩
              case round =>
                clear q5 HMr HKj
                obtain ⟨j, hj, rfl, HNo, kr⟩ := hrel
                have HKj := Lib.hid kr
                have HMr := Lib.hid (HM.out.keep0 HKj.out)
                have q5 := HMr.out.cellB
                rw [HNb.out] at q5
                clear kr
                by_cases hlj : j < nb
                · obtain ⟨u, hu⟩ := at_of HNb.out hlj
                  obtain ⟨b, off, hBA, hb, hc⟩ := (Rd.of_own HMr.out.begins).field begE_len hu (by omega)
                  have hlt := HG.out.lt u (List.mem_of_getElem? hu)
                  obtain ⟨pe, hpe⟩ : ∃ pe, S.o.preds[u.1]? = some pe := ⟨_, List.getElem?_eq_getElem hlt⟩
                  have HEn : Hid (entryAt S u = pe.entry) := Lib.hid (by
                    unfold entryAt
                    rw [List.getD_eq_getElem?_getD, hpe]
                    rfl)
                  obtain ⟨gp, hPA, hcap⟩ := own_atA HMr.out.preds (by omega)
                  obtain ⟨b2, off2, e2, hb2, hc2⟩ := (Rd.of_own HMr.out.preds).field predE_len hpe (by omega)
                  rw [hPA] at e2
                  injection e2 with e2
                  injection e2 with e3 e4
                  subst e3 e4
                  have y0 := hc2 2 _ (show (predE pe)[2]? = some (.int .i64 pe.entry) from rfl)
                  rw [Nat.zero_add] at y0
                  have y2 := HMr.out.c2
                  rw [HNp.out, hPA] at y2
                  rw [HNp.out] at hlt
                  subst hBA
                  have HNi : Hid ((u.2 = i → ¬ BegBad S j u) → ∀ (k : Nat) (b : Nat × Nat), k < j + 1 → S.begins[k]? = some b → b.2 = i → ¬ BegBad S k b) := Lib.hid (fun hq k b hk hkb e => by
                    by_cases hkj : k < j
                    · exact HNo.out k b hkj hkb e
                    · obtain rfl : k = j := by omega
                      rw [hu] at hkb
                      obtain rfl := Option.some.inj hkb
                      exact hq e)
                  have HHit : Hid (u.2 = i → BegBad S j u → least (0, -1) (wrongs S) = (7, (i : Int))) := Lib.hid (fun e1 e2 => scan_begin HLow.out HNoU.out hu e1 e2)
                  have HBd : Hid (BegBad S j u ↔ ((nc : Int) ≤ pe.entry ∨ ∃ c, S.begins[j + 1]? = some c ∧ entryAt S c = pe.entry)) := Lib.hid (by
                    unfold BegBad
                    rw [HEn.out, HNc.out])
                  have HNx : Hid (∀ c, S.begins[j + 1]? = some c → ∃ pc, entryAt S c = pc ∧ c.1 < np ∧ wr.cell? ⟨b, off + (j + 1) * 2, none⟩ = some (.int .i64 c.1) ∧ wr.cell? ⟨gp, c.1 * 3 + 2, none⟩ = some (.int .i64 pc)) := Lib.hid (fun c hcj => by
                    have hlt2 := HG.out.lt c (List.mem_of_getElem? hcj)
                    obtain ⟨pc, hpc⟩ : ∃ pc, S.o.preds[c.1]? = some pc := ⟨_, List.getElem?_eq_getElem hlt2⟩
                    obtain ⟨b3, off3, e3, hb3, hc3⟩ := (Rd.of_own HMr.out.begins).field begE_len hcj (by omega)
                    obtain ⟨b4, off4, e4, hb4, hc4⟩ := (Rd.of_own HMr.out.preds).field predE_len hpc (by omega)
                    injection e3 with e3
                    injection e3 with e5 e6
                    subst e5 e6
                    rw [hPA] at e4
                    injection e4 with e4
                    injection e4 with e5 e6
                    subst e5 e6
                    have z0 := hc3 0 _ rfl
                    have z2 := hc4 2 _ (show (predE pc)[2]? = some (.int .i64 pc.entry) from rfl)
                    rw [Nat.zero_add] at z2
                    refine ⟨pc.entry, ?_, by rw [← HNp.out]; exact hlt2, z0, z2⟩
                    unfold entryAt
                    rw [List.getD_eq_getElem?_getD, hpc]
                    rfl)
                  obtain ⟨p1, p2⟩ := u
                  dsimp only at y0 HNi HHit HBd hlt
                  have z0 : wr.cell? ⟨b, off + j * 2, none⟩ = some (.int .i64 p1) := hc 0 _ rfl
                  have z1 : wr.cell? ⟨b, off + j * 2 + 1, none⟩ = some (.int .i64 p2) := hc 1 _ rfl
                  have k5 : Keeps wr (wr.alloc (.cells #[.int .i64 p1, .int .i64 p2] 73)) [] := (Keeps.refl wr []).alloc _
                  have HBx : Hid (Blk (wr.alloc (.cells #[.int .i64 p1, .int .i64 p2] 73)) wr.heap.size 73 #[.int .i64 p1, .int .i64 p2]) := Blk.new _ _ _
                  have HK5 := Lib.hid (HKj.out.trans k5)
                  have HKr5 := Lib.hid k5
                  have HQ5 := Lib.hid q5
                  have HY2 := Lib.hid y2
                  have HF : Hid (∀ bx W, bx = wr.heap.size → Keeps (wr.alloc (.cells #[.int .i64 p1, .int .i64 p2] 73)) W [] → W.cell? ⟨ab, 2, none⟩ = some (.slice (some ⟨gp, 0, none⟩) np cp) ∧ W.cell? ⟨bx, 0, none⟩ = some (.int .i64 p1) ∧ W.cell? ⟨gp, p1 * 3 + 2, none⟩ = some (.int .i64 pe.entry)) := fun bx W hbx kk => by
                    subst hbx
                    have kk2 := k5.trans kk
                    exact ⟨(kk2.cell0 (block_lt_of_cell y2)).trans y2, (HBx.out.keep kk (by simp)).cell 0, (kk2.cell0 (block_lt_of_cell y0)).trans y0⟩
                  have b2 : (j : Int) < (nb : Int) := by omega
                  have b3 : (0 : Int) ≤ (j : Int) := Int.natCast_nonneg _
                  have HHj : Hid (S.begins[j + 1]? = none ↔ ¬ j + 1 < nb) := Lib.hid (by rw [← HNb.out, List.getElem?_eq_none_iff]; omega)
                  clear hc hc2 hcap hb hb2 y0 y2 hu k5 hpe
                  by_cases hui : p2 = i
                  case neg =>
                    have d1 : ((p2 : Int) == (i : Int)) = false := by rw [beq_eq_false_iff_ne]; omega
                    have d2 : ((p2 : Int) != (i : Int)) = true := by rw [bne_iff_ne]; omega
                    go_wp2_with fail
                    go_roundw
                    case rel => exact ⟨j + 1, by omega, by go_num, HNi.out (fun e => absurd e hui), HK5.out⟩
                    case measure => simp [intOf]; omega
                  have d1 : ((p2 : Int) == (i : Int)) = true := by rw [beq_iff_eq]; omega
                  have d2 : ((p2 : Int) != (i : Int)) = false := by rw [bne_eq_false_iff_eq]; omega
                  have b4 : (0 : Int) ≤ (p1 : Int) := Int.natCast_nonneg _
                  have b5 : (p1 : Int) < (np : Int) := by omega
                  have HHit2 := Lib.hid (HHit.out hui)
                  have HNi2 := Lib.hid (fun h => HNi.out (fun _ => h))
                  clear HHit HNi hui
                  go_upto_region 27 with fail
                  generalize hbx : wr.heap.size = bx at *
                  clear q5 z0 z1 d1 d2
                  generalize wr.alloc (.cells #[.int .i64 p1, .int .i64 p2] 73) = w5 at *
                  refine wp_region_tx (fun W' => W'.cell? ⟨ab, 2, none⟩ = some (.slice (some ⟨gp, 0, none⟩) np cp) ∧ W'.cell? ⟨bx, 0, none⟩ = some (.int .i64 p1) ∧ W'.cell? ⟨gp, p1 * 3 + 2, none⟩ = some (.int .i64 pe.entry)) [(0, true), (1, true), (2, true), (3, true), (4, true), (5, true), (6, true), (7, true), (8, true), (9, true), (10, false)] (by kernel_rfl) (by kernel_rfl) (HF.out bx _ rfl (Keeps.refl _ _).drew) (fun hHeld => ?_)
                  (repeat (first | (refine wpTx_take (v := ?_) rfl (by assumption) ?_ (by rfl) ?_; rotate_left; (focus (intro w' hSw; (try dsimp only at hSw); go_simp; (try with_reducible rfl); done)); simp only [Act.put, List.setIfInBounds_toArray, List.set_cons_zero, List.set_cons_succ]) | (refine wpTx_skip rfl (by assumption) (by rfl) ?_; simp only [Act.put, List.setIfInBounds_toArray, List.set_cons_zero, List.set_cons_succ])))
                  refine wpTx_last rfl (fun K hK => ?_)
                  go_simp
                  refine hK.out _ _ (NoPanic.normal ?_); clear hK K; (try simp only [Act.put, List.setIfInBounds_toArray, List.set_cons_zero, List.set_cons_succ])
                  clear hHeld HF
                  have HK6 := Lib.hid (HK5.out.trans (Keeps.refl w5 []).drew)
                  have HKr6 := Lib.hid (HKr5.out.trans (Keeps.refl w5 []).drew)
                  generalize w5.drew = w6 at *
                  clear hbx
                  have hwj : j ≤ 1000000 := by have := HFw.out; omega
                  have b6 : (0 : Int) ≤ (j : Int) + 1 := by omega
                  by_cases hent : (nc : Int) ≤ pe.entry
                  · have HV := Lib.hid (HPr.out.trans (if_pos (by rw [HHit2.out (HBd.out.2 (.inl hent))]; exact (by decide : (7 : Int) ≠ 0))))
                    rw [HHit2.out (HBd.out.2 (.inl hent))] at HV
                    go_upto_region 28 with fail
                    refine wp_region_tx (fun W' => True) [(0, true), (1, true), (2, true), (3, true), (4, true), (5, true), (6, true), (7, true), (8, true), (9, true), (10, true), (11, true), (12, true), (13, true), (14, true), (15, true), (16, true), (17, true), (18, true), (19, true), (20, true), (21, true), (22, true), (23, true), (24, true), (25, true), (26, true), (27, true), (28, true), (29, true), (30, true), (31, true), (32, true), (33, false)] (by kernel_rfl) (by kernel_rfl) trivial (fun hHeld => ?_)
                    (repeat (first | (refine wpTx_take (v := ?_) rfl (by assumption) ?_ (by rfl) ?_; rotate_left; (focus (intro w' hSw; (try dsimp only at hSw); go_simp; (try with_reducible rfl); done)); simp only [Act.put, List.setIfInBounds_toArray, List.set_cons_zero, List.set_cons_succ]) | (refine wpTx_skip rfl (by assumption) (by rfl) ?_; simp only [Act.put, List.setIfInBounds_toArray, List.set_cons_zero, List.set_cons_succ])))
                    refine wpTx_last rfl (fun K hK => ?_)
                    go_simp
                    refine hK.out _ _ (NoPanic.normal ?_); clear hK K; (try simp only [Act.put, List.setIfInBounds_toArray, List.set_cons_zero, List.set_cons_succ])
                    clear hHeld
                    have HBoxW : Hid (Blk w6.drew w.heap.size 39 #[.slice none 0 0, .slice none 0 0, .slice none 0 0, .slice none 0 0]) := Lib.hid (HBoxR.out.keep (HK6.out.trans (Keeps.refl w6 []).drew) (by simp))
                    have HKrW : Hid (Keeps w w6.drew []) := Lib.hid (HKr.out.trans (HK6.out.trans (Keeps.refl w6 []).drew))
                    generalize w6.drew = w7 at *
                    have HBf : Hid (Blk ((((w7.setCell ⟨w.heap.size, 0, none⟩ (.slice none 0 0)).setCell ⟨w.heap.size, 1, none⟩ (.slice none 0 0)).setCell ⟨w.heap.size, 2, none⟩ (.slice none 0 0)).setCell ⟨w.heap.size, 3, none⟩ (.slice none 0 0)) w.heap.size 39 #[.slice none 0 0, .slice none 0 0, .slice none 0 0, .slice none 0 0]) := Lib.hid (((((HBoxW.out.set_ 0 (.slice none 0 0)).set_ 1 (.slice none 0 0)).set_ 2 (.slice none 0 0)).set_ 3 (.slice none 0 0)))
                    have HKf : Hid (Keeps w ((((w7.setCell ⟨w.heap.size, 0, none⟩ (.slice none 0 0)).setCell ⟨w.heap.size, 1, none⟩ (.slice none 0 0)).setCell ⟨w.heap.size, 2, none⟩ (.slice none 0 0)).setCell ⟨w.heap.size, 3, none⟩ (.slice none 0 0)) []) := Lib.hid ((((HKrW.out.setCell (p := ⟨w.heap.size, 0, none⟩) (.inr (Nat.le_refl _)) _).setCell (p := ⟨w.heap.size, 1, none⟩) (.inr (Nat.le_refl _)) _).setCell (p := ⟨w.heap.size, 2, none⟩) (.inr (Nat.le_refl _)) _).setCell (p := ⟨w.heap.size, 3, none⟩) (.inr (Nat.le_refl _)) _)
                    have f0 := HBoxW.out.frozen 0
                    have v0 := HBoxW.out.cell 0
                    have f1 := HBoxW.out.frozen 1
                    have v1 := HBoxW.out.cell 1
                    have f2 := HBoxW.out.frozen 2
                    have v2 := HBoxW.out.cell 2
                    have f3 := HBoxW.out.frozen 3
                    have v3 := HBoxW.out.cell 3
                    go_upto_region 29 with fail
                    repeat (first | go_values | go_skip | go_guarded | go_step | go_upon)
                    generalize ((((w7.setCell ⟨w.heap.size, 0, none⟩ (.slice none 0 0)).setCell ⟨w.heap.size, 1, none⟩ (.slice none 0 0)).setCell ⟨w.heap.size, 2, none⟩ (.slice none 0 0)).setCell ⟨w.heap.size, 3, none⟩ (.slice none 0 0)) = wF at *
                    have y0 := HBf.out.cell 0
                    have y1 := HBf.out.cell 1
                    have y2 := HBf.out.cell 2
                    have y3 := HBf.out.cell 3
                    refine bodyPost_ret (v := .tuple #[.agg #[.slice none 0 0, .slice none 0 0, .slice none 0 0, .slice none 0 0], .int .i64 7, .int .i64 i]) (by simp [results, Tryz.results9, go_sem, y0, y1, y2, y3]) rfl ?_
                    rw [HV.out]
                    exact ⟨none, none, none, none, 0, 0, 0, 0, rfl, ⟨Rd.nil, Rd.nil, Rd.nil, Rd.nil, fun _ => rfl, fun _ => rfl, fun _ => rfl, fun _ => rfl⟩, HKf.out⟩
                  by_cases hnx : j + 1 < nb
                  case neg =>
                    have HNb1 : Hid (¬ BegBad S j (p1, p2)) := Lib.hid (fun hbad => by
                      rcases HBd.out.1 hbad with h1 | ⟨c, h1, _⟩
                      · exact hent h1
                      · rw [HHj.out.2 hnx] at h1
                        cases h1)
                    have q6 : ∀ W, Keeps w6 W [] → W.cell? ⟨ab, 1029, none⟩ = some (.slice (some ⟨b, off, none⟩) nb cb) := fun W kk => ((HKr6.out.trans kk).cell0 (block_lt_of_cell HQ5.out)).trans HQ5.out
                    have c1 : decide ((j : Int) + 1 < (nb : Int)) = false := decide_eq_false (by omega)
                    go_upto_region 28 with fail
                    refine wp_region_tx (fun W' => W'.cell? ⟨ab, 1029, none⟩ = some (.slice (some ⟨b, off, none⟩) nb cb)) [(0, true), (1, true), (2, true), (3, true), (4, true), (5, true), (6, true), (7, true), (8, true), (9, true), (10, true), (11, true), (12, true), (13, true), (14, true), (15, true), (16, true), (17, true), (18, true), (19, true), (20, true), (21, true), (22, true), (23, true), (24, true), (25, true), (26, true), (27, true), (28, true), (29, true), (30, true), (31, true), (32, true), (33, false)] (by kernel_rfl) (by kernel_rfl) (q6 _ (Keeps.refl _ _).drew) (fun hHeld => ?_)
                    have dw := wrapK j hwj
                    (repeat (first | (refine wpTx_take (v := ?_) rfl (by assumption) ?_ (by rfl) ?_; rotate_left; (focus (intro w' hSw; (try dsimp only at hSw); go_simp; (try with_reducible rfl); done)); simp only [Act.put, List.setIfInBounds_toArray, List.set_cons_zero, List.set_cons_succ]) | (refine wpTx_skip rfl (by assumption) (by rfl) ?_; simp only [Act.put, List.setIfInBounds_toArray, List.set_cons_zero, List.set_cons_succ])))
                    refine wpTx_last rfl (fun K hK => ?_)
                    go_simp
                    refine hK.out _ _ (NoPanic.normal ?_); clear hK K; (try simp only [Act.put, List.setIfInBounds_toArray, List.set_cons_zero, List.set_cons_succ])
                    clear hHeld dw
                    have HK7 := Lib.hid (HK6.out.trans (Keeps.refl w6 []).drew)
                    generalize w6.drew = w7 at *
                    go_wp2_with fail
                    go_roundw
                    case rel => exact ⟨j + 1, by omega, by go_num, HNi2.out HNb1.out, HK7.out⟩
                    case measure => simp [intOf]; omega
                  obtain ⟨c, hcc⟩ : ∃ c, S.begins[j + 1]? = some c := at_of HNb.out hnx
                  obtain ⟨pc, hpc, hc1, hc2, hc3⟩ := HNx.out c hcc
                  have HBd2 : Hid (BegBad S j (p1, p2) ↔ pc = pe.entry) := Lib.hid (by
                    rw [HBd.out]
                    refine ⟨fun h => ?_, fun h => .inr ⟨c, hcc, hpc.trans h⟩⟩
                    rcases h with h | ⟨c', h1, h2⟩
                    · exact absurd h hent
                    · rw [hcc] at h1
                      obtain rfl := Option.some.inj h1
                      exact hpc.symm.trans h2)
                  obtain ⟨c0, hc0⟩ : ∃ c0, c.1 = c0 := ⟨_, rfl⟩
                  rw [hc0] at hc1 hc2 hc3
                  have q6 : ∀ W, Keeps w6 W [] → W.cell? ⟨ab, 1029, none⟩ = some (.slice (some ⟨b, off, none⟩) nb cb) ∧ W.cell? ⟨ab, 2, none⟩ = some (.slice (some ⟨gp, 0, none⟩) np cp) ∧ W.cell? ⟨b, off + (j + 1) * 2, none⟩ = some (.int .i64 c0) ∧ W.cell? ⟨gp, c0 * 3 + 2, none⟩ = some (.int .i64 pc) := fun W kk => ⟨((HKr6.out.trans kk).cell0 (block_lt_of_cell HQ5.out)).trans HQ5.out, ((HKr6.out.trans kk).cell0 (block_lt_of_cell HY2.out)).trans HY2.out, ((HKr6.out.trans kk).cell0 (block_lt_of_cell hc2)).trans hc2, ((HKr6.out.trans kk).cell0 (block_lt_of_cell hc3)).trans hc3⟩
                  have c1 : (j : Int) + 1 < (nb : Int) := by omega
                  have c2 : (0 : Int) ≤ (c0 : Int) := Int.natCast_nonneg _
                  have c3 : (c0 : Int) < (np : Int) := by omega
                  have HQ6 := Lib.hid q6
                  clear hcc hpc hc2 hc3 hc0 HNx q6
                  by_cases heq : pc = pe.entry
                  · have d3 : (pc == pe.entry) = true := by simpa using heq
                    have HV := Lib.hid (HPr.out.trans (if_pos (by rw [HHit2.out (HBd2.out.2 heq)]; exact (by decide : (7 : Int) ≠ 0))))
                    rw [HHit2.out (HBd2.out.2 heq)] at HV
                    clear heq
                    go_upto_region 28 with fail
                    refine wp_region_tx (fun W' => W'.cell? ⟨ab, 1029, none⟩ = some (.slice (some ⟨b, off, none⟩) nb cb) ∧ W'.cell? ⟨ab, 2, none⟩ = some (.slice (some ⟨gp, 0, none⟩) np cp) ∧ W'.cell? ⟨b, off + (j + 1) * 2, none⟩ = some (.int .i64 c0) ∧ W'.cell? ⟨gp, c0 * 3 + 2, none⟩ = some (.int .i64 pc)) [(0, true), (1, true), (2, true), (3, true), (4, true), (5, true), (6, true), (7, true), (8, true), (9, true), (10, true), (11, true), (12, true), (13, true), (14, true), (15, true), (16, true), (17, true), (18, true), (19, true), (20, true), (21, true), (22, true), (23, true), (24, true), (25, true), (26, true), (27, true), (28, true), (29, true), (30, true), (31, true), (32, true), (33, false)] (by kernel_rfl) (by kernel_rfl) (HQ6.out _ (Keeps.refl _ _).drew) (fun hHeld => ?_)
                    have dw := wrapK j hwj
                    (repeat (first | (refine wpTx_take (v := ?_) rfl (by assumption) ?_ (by rfl) ?_; rotate_left; (focus (intro w' hSw; (try dsimp only at hSw); go_simp; (try with_reducible rfl); done)); simp only [Act.put, List.setIfInBounds_toArray, List.set_cons_zero, List.set_cons_succ]) | (refine wpTx_skip rfl (by assumption) (by rfl) ?_; simp only [Act.put, List.setIfInBounds_toArray, List.set_cons_zero, List.set_cons_succ])))
                    refine wpTx_last rfl (fun K hK => ?_)
                    go_simp
                    refine hK.out _ _ (NoPanic.normal ?_); clear hK K; (try simp only [Act.put, List.setIfInBounds_toArray, List.set_cons_zero, List.set_cons_succ])
                    clear hHeld dw
                    have HBoxW : Hid (Blk w6.drew w.heap.size 39 #[.slice none 0 0, .slice none 0 0, .slice none 0 0, .slice none 0 0]) := Lib.hid (HBoxR.out.keep (HK6.out.trans (Keeps.refl w6 []).drew) (by simp))
                    have HKrW : Hid (Keeps w w6.drew []) := Lib.hid (HKr.out.trans (HK6.out.trans (Keeps.refl w6 []).drew))
                    generalize w6.drew = w7 at *
                    have HBf : Hid (Blk ((((w7.setCell ⟨w.heap.size, 0, none⟩ (.slice none 0 0)).setCell ⟨w.heap.size, 1, none⟩ (.slice none 0 0)).setCell ⟨w.heap.size, 2, none⟩ (.slice none 0 0)).setCell ⟨w.heap.size, 3, none⟩ (.slice none 0 0)) w.heap.size 39 #[.slice none 0 0, .slice none 0 0, .slice none 0 0, .slice none 0 0]) := Lib.hid (((((HBoxW.out.set_ 0 (.slice none 0 0)).set_ 1 (.slice none 0 0)).set_ 2 (.slice none 0 0)).set_ 3 (.slice none 0 0)))
                    have HKf : Hid (Keeps w ((((w7.setCell ⟨w.heap.size, 0, none⟩ (.slice none 0 0)).setCell ⟨w.heap.size, 1, none⟩ (.slice none 0 0)).setCell ⟨w.heap.size, 2, none⟩ (.slice none 0 0)).setCell ⟨w.heap.size, 3, none⟩ (.slice none 0 0)) []) := Lib.hid ((((HKrW.out.setCell (p := ⟨w.heap.size, 0, none⟩) (.inr (Nat.le_refl _)) _).setCell (p := ⟨w.heap.size, 1, none⟩) (.inr (Nat.le_refl _)) _).setCell (p := ⟨w.heap.size, 2, none⟩) (.inr (Nat.le_refl _)) _).setCell (p := ⟨w.heap.size, 3, none⟩) (.inr (Nat.le_refl _)) _)
                    have f0 := HBoxW.out.frozen 0
                    have v0 := HBoxW.out.cell 0
                    have f1 := HBoxW.out.frozen 1
                    have v1 := HBoxW.out.cell 1
                    have f2 := HBoxW.out.frozen 2
                    have v2 := HBoxW.out.cell 2
                    have f3 := HBoxW.out.frozen 3
                    have v3 := HBoxW.out.cell 3
                    go_upto_region 29 with fail
                    repeat (first | go_values | go_skip | go_guarded | go_step | go_upon)
                    generalize ((((w7.setCell ⟨w.heap.size, 0, none⟩ (.slice none 0 0)).setCell ⟨w.heap.size, 1, none⟩ (.slice none 0 0)).setCell ⟨w.heap.size, 2, none⟩ (.slice none 0 0)).setCell ⟨w.heap.size, 3, none⟩ (.slice none 0 0)) = wF at *
                    have y0 := HBf.out.cell 0
                    have y1 := HBf.out.cell 1
                    have y2 := HBf.out.cell 2
                    have y3 := HBf.out.cell 3
                    refine bodyPost_ret (v := .tuple #[.agg #[.slice none 0 0, .slice none 0 0, .slice none 0 0, .slice none 0 0], .int .i64 7, .int .i64 i]) (by simp [results, Tryz.results9, go_sem, y0, y1, y2, y3]) rfl ?_
                    rw [HV.out]
                    exact ⟨none, none, none, none, 0, 0, 0, 0, rfl, ⟨Rd.nil, Rd.nil, Rd.nil, Rd.nil, fun _ => rfl, fun _ => rfl, fun _ => rfl, fun _ => rfl⟩, HKf.out⟩
                  · have d3 : (pc == pe.entry) = false := by simpa using heq
                    have HNb1 : Hid (¬ BegBad S j (p1, p2)) := Lib.hid (fun hbad => heq (HBd2.out.1 hbad))
                    clear heq
                    go_upto_region 28 with fail
                    refine wp_region_tx (fun W' => W'.cell? ⟨ab, 1029, none⟩ = some (.slice (some ⟨b, off, none⟩) nb cb) ∧ W'.cell? ⟨ab, 2, none⟩ = some (.slice (some ⟨gp, 0, none⟩) np cp) ∧ W'.cell? ⟨b, off + (j + 1) * 2, none⟩ = some (.int .i64 c0) ∧ W'.cell? ⟨gp, c0 * 3 + 2, none⟩ = some (.int .i64 pc)) [(0, true), (1, true), (2, true), (3, true), (4, true), (5, true), (6, true), (7, true), (8, true), (9, true), (10, true), (11, true), (12, true), (13, true), (14, true), (15, true), (16, true), (17, true), (18, true), (19, true), (20, true), (21, true), (22, true), (23, true), (24, true), (25, true), (26, true), (27, true), (28, true), (29, true), (30, true), (31, true), (32, true), (33, false)] (by kernel_rfl) (by kernel_rfl) (HQ6.out _ (Keeps.refl _ _).drew) (fun hHeld => ?_)
                    have dw := wrapK j hwj
                    (repeat (first | (refine wpTx_take (v := ?_) rfl (by assumption) ?_ (by rfl) ?_; rotate_left; (focus (intro w' hSw; (try dsimp only at hSw); go_simp; (try with_reducible rfl); done)); simp only [Act.put, List.setIfInBounds_toArray, List.set_cons_zero, List.set_cons_succ]) | (refine wpTx_skip rfl (by assumption) (by rfl) ?_; simp only [Act.put, List.setIfInBounds_toArray, List.set_cons_zero, List.set_cons_succ])))
                    refine wpTx_last rfl (fun K hK => ?_)
                    go_simp
                    refine hK.out _ _ (NoPanic.normal ?_); clear hK K; (try simp only [Act.put, List.setIfInBounds_toArray, List.set_cons_zero, List.set_cons_succ])
                    clear hHeld dw
                    have HK7 := Lib.hid (HK6.out.trans (Keeps.refl w6 []).drew)
                    generalize w6.drew = w7 at *
                    go_wp2_with fail
                    go_roundw
                    case rel => exact ⟨j + 1, by omega, by go_num, HNi2.out HNb1.out, HK7.out⟩
                    case measure => simp [intOf]; omega
                · obtain rfl : nb = j := by omega
                  have HLow2 := Lib.hid (scan_next HLow.out HNoU.out (fun k b hk e => HNo.out k b (by rw [← HNb.out]; exact (List.getElem?_eq_some_iff.1 hk).1) hk e))
                  clear HNo hlj hj
                  go_wp2_with fail
                  go_roundw
                  case rel => exact ⟨i + 1, by omega, by go_num, HLow2.out, HKj.out⟩
                  case measure => simp [intOf]; omega
        · obtain rfl : n = i := by omega
          obtain ⟨w4, hw4⟩ : ∃ w4, w4 = wr := ⟨wr, rfl⟩
          subst hw4
          have h00 := HEnd.out HLow.out
          have HV := HPr.out
          rw [h00, if_neg (by decide), HGo.out (by rw [h00])] at HV
          have HV := Lib.hid HV
          have HNoU : Hid (∀ u ∈ S.uses, badUse S u = false) := Lib.hid (fun u hu => by
            cases hb : badUse S u with
            | false => rfl
            | true =>
              have h1 := least_zero (wrongs_ne S) (by rw [h00])
              have h2 : ((10 : Int), u.2.2) ∈ wrongs S := List.mem_append_left _ (List.mem_map.2 ⟨u, List.mem_filter.2 ⟨hu, hb⟩, rfl⟩)
              rw [h1] at h2
              cases h2)
          have H0 : Hid (RsM w0 w4 ab AA FA PA CA UA BA ca cf cp cc cu cb { S with o := { S.o with code := codeK S 0 } }) := Lib.hid (by rw [codeK_zero]; exact HM.out.keep0 HKi.out)
          have q4 := H0.out.cellU
          simp only [HNu.out] at q4
          clear h00 HPr HGo HEnd HLow hin hi
          go_wp2_with fail
          go_loopw [16, 17] (fun v16 v17 wr => ∃ j : Nat, j ≤ nu ∧ v16 = .int .i64 j ∧ RsM w0 wr ab AA FA PA CA UA BA ca cf cp cc cu cb { S with o := { S.o with code := codeK S j } } ∧ Keeps w4 wr (ownL (.slice CA 0 0))) (fun v16 _ _ => nu - (intOf v16).toNat)
          case atStart => exact ⟨0, Nat.zero_le _, rfl, H0.out, Keeps.refl _ _⟩
          case round =>
            clear H0 q4
            obtain ⟨j, hj, rfl, hmr, kr⟩ := hrel
            have HMr := Lib.hid hmr
            have HKj := Lib.hid kr
            have q4 := hmr.cellU
            simp only [HNu.out] at q4
            clear hmr kr
            by_cases hlj : j < nu
            · obtain ⟨u, hu⟩ := at_of HNu.out hlj
              obtain ⟨b, off, hUA, hb, hc⟩ := (Rd.of_own HMr.out.uses).field useE_len hu (by omega)
              obtain ⟨ii, hii, harg, _, _, hu4⟩ := codeK_arg HG.out.uses hu
              obtain ⟨_, _, ii0, hii0, hx0, hx1⟩ := HI.out.uses u (List.mem_of_getElem? hu)
              have hga : (S.o.code.getD u.1 noI).arg u.2.1 = ii0.arg u.2.1 := by
                rw [List.getD_eq_getElem?_getD, hii0]
                rfl
              rw [← hga, ← harg] at hx0 hx1
              have huc : u.1 < nc := by have := (List.getElem?_eq_some_iff.1 hii).1; rw [codeK_len, HNc.out] at this; exact this
              obtain ⟨gc, hCA, hcap⟩ := own_atA HMr.out.code (by simp only; rw [codeK_len, HNc.out]; omega)
              obtain ⟨b2, off2, e2, hb2, hc2⟩ := (Rd.of_own HMr.out.code).field insE_len hii (by omega)
              rw [hCA] at e2
              injection e2 with e2
              injection e2 with e3 e4
              subst e3 e4
              have y0 := hc2 (1 + u.2.1) _ (insE_arg ii u.2.1 hu4)
              rw [Nat.zero_add, ← Nat.add_assoc] at y0
              obtain ⟨x, hx⟩ : ∃ x : Nat, ii.arg u.2.1 = (x : Int) := Int.eq_ofNat_of_zero_le hx0
              have hUse : useAt S u = S.labels (x : Int) := by
                rw [← hx, harg]
                rfl
              have hbd := HNoU.out u (List.mem_of_getElem? hu)
              obtain ⟨p, hp, hpn⟩ : ∃ p : Nat, useAt S u = some p ∧ p < nc := by
                unfold badUse at hbd
                cases hq : useAt S u with
                | none => rw [hq] at hbd; cases hbd
                | some p =>
                  rw [hq] at hbd
                  have := of_decide_eq_false hbd
                  rw [HNc.out] at this
                  exact ⟨p, rfl, by omega⟩
              rw [hx] at y0 hx1
              have yl := HMr.out.cl (n := x) (by omega)
              simp only at yl
              rw [← hUse, hp] at yl
              have yl : wr.cell? ⟨ab, 4 + x, none⟩ = some (.int .i64 ((p : Int) + 1)) := yl
              have y3 := HMr.out.c3
              simp only [codeK_len, HNc.out, hCA] at y3
              have HCA := Lib.hid hCA
              have HCi := Lib.hid hii
              have HU0 := Lib.hid hu
              have HU4 := Lib.hid hu4
              have HGet := Lib.hid hp
              have HGood := Lib.hid hbd
              rw [hUA] at q4
              obtain ⟨u1, u2, u3⟩ := u
              dsimp only at y0 hu4 huc HU4 HCi
              have p0 : wr.cell? ⟨b, off + j * 3, none⟩ = some (.int .i64 u1) := hc 0 _ rfl
              have p1 : wr.cell? ⟨b, off + j * 3 + 1, none⟩ = some (.int .i64 u2) := hc 1 _ rfl
              have p2 : wr.cell? ⟨b, off + j * 3 + 2, none⟩ = some (.int .i64 u3) := hc 2 _ rfl
              have k5 : Keeps wr (wr.alloc (.cells #[.int .i64 u1, .int .i64 u2, .int .i64 u3] 69)) [] := (Keeps.refl wr []).alloc _
              have HBx : Hid (Blk (wr.alloc (.cells #[.int .i64 u1, .int .i64 u2, .int .i64 u3] 69)) wr.heap.size 69 #[.int .i64 u1, .int .i64 u2, .int .i64 u3]) := Blk.new _ _ _
              have HM5 := Lib.hid (HMr.out.keep0 k5)
              have HK5 := Lib.hid (HKj.out.trans (k5.to_ _))
              have hfz : (wr.alloc (.cells #[.int .i64 u1, .int .i64 u2, .int .i64 u3] 69)).frozen? ⟨gc, u1 * 5 + 1 + u2, none⟩ = false := by
                have h1 := HM5.out.code
                rw [HCA.out] at h1
                obtain ⟨cur, hbk, _⟩ := own_block h1
                exact hbk.frozen _
              have HF : Hid (∀ bx W, bx = wr.heap.size → Keeps (wr.alloc (.cells #[.int .i64 u1, .int .i64 u2, .int .i64 u3] 69)) W [] → (W.cell? ⟨ab, 3, none⟩ = some (.slice (some ⟨gc, 0, none⟩) nc cc) ∧ W.cell? ⟨bx, 0, none⟩ = some (.int .i64 u1) ∧ W.cell? ⟨bx, 1, none⟩ = some (.int .i64 u2) ∧ W.cell? ⟨gc, u1 * 5 + 1 + u2, none⟩ = some (.int .i64 x) ∧ W.cell? ⟨ab, 4 + x, none⟩ = some (.int .i64 ((p : Int) + 1))) ∧ W.frozen? ⟨gc, u1 * 5 + 1 + u2, none⟩ = false) := fun bx W hbx kk => by
                subst hbx
                have kk2 := k5.trans kk
                exact ⟨⟨(kk2.cell0 (block_lt_of_cell y3)).trans y3, (HBx.out.keep kk (by simp)).cell 0, (HBx.out.keep kk (by simp)).cell 1, (kk2.cell0 (block_lt_of_cell y0)).trans y0, (kk2.cell0 (block_lt_of_cell yl)).trans yl⟩, (kk.frozen (p := ⟨gc, u1 * 5 + 1 + u2, none⟩) (by rw [World.size_alloc]; exact Nat.lt_succ_of_lt (block_lt_of_cell y0)) (by simp)).trans hfz⟩
              have b2 : (j : Int) < (nu : Int) := by omega
              have b3 : (0 : Int) ≤ (j : Int) := Int.natCast_nonneg _
              have b4 : (0 : Int) ≤ (u1 : Int) := Int.natCast_nonneg _
              have b5 : (u1 : Int) < (nc : Int) := by omega
              have b6 : (0 : Int) ≤ (u2 : Int) := Int.natCast_nonneg _
              have b7 : (u2 : Int) < 4 := by omega
              have b8 : (0 : Int) ≤ (x : Int) := Int.natCast_nonneg _
              have b9 : (x : Int) < 1024 := by omega
              have hpw : p ≤ 1000000 := by have := HFw.out; omega
              clear hc hc2 hii hx hx0 hx1 hcap hb hb2 y0 yl y3 hu k5 hUA hCA hga harg hii0 hUse hbd hp hfz
              go_upto_region 34 with fail
              generalize hbx : wr.heap.size = bx at *
              clear q4 p0 p1 p2
              generalize wr.alloc (.cells #[.int .i64 u1, .int .i64 u2, .int .i64 u3] 69) = w5 at *
              refine wp_region_tx (fun W' => (W'.cell? ⟨ab, 3, none⟩ = some (.slice (some ⟨gc, 0, none⟩) nc cc) ∧ W'.cell? ⟨bx, 0, none⟩ = some (.int .i64 u1) ∧ W'.cell? ⟨bx, 1, none⟩ = some (.int .i64 u2) ∧ W'.cell? ⟨gc, u1 * 5 + 1 + u2, none⟩ = some (.int .i64 x) ∧ W'.cell? ⟨ab, 4 + x, none⟩ = some (.int .i64 ((p : Int) + 1))) ∧ W'.frozen? ⟨gc, u1 * 5 + 1 + u2, none⟩ = false) [(0, true), (1, true), (2, true), (3, true), (4, true), (5, true), (6, true), (7, true), (8, true), (9, true), (10, true), (11, true), (12, true), (13, true), (14, true), (15, true), (16, true), (17, true), (18, true), (19, true), (20, true), (21, true), (22, true), (23, true), (24, true), (25, true), (26, true), (27, true), (28, true), (29, true), (30, true), (31, false)] (by kernel_rfl) (by kernel_rfl) (HF.out bx _ rfl (Keeps.refl _ _).drew) (fun hHeld => ?_)
              have dw : IntKind.i64.wrap ((p : Int) + 1 - 1) = (p : Int) := by
                simp only [IntKind.wrap_i64]
                omega
              (repeat (first | (refine wpTx_take (v := ?_) rfl (by assumption) ?_ (by rfl) ?_; rotate_left; (focus (intro w' hSw; (try dsimp only at hSw); go_simp; (try with_reducible rfl); done)); simp only [Act.put, List.setIfInBounds_toArray, List.set_cons_zero, List.set_cons_succ]) | (refine wpTx_skip rfl (by assumption) (by rfl) ?_; simp only [Act.put, List.setIfInBounds_toArray, List.set_cons_zero, List.set_cons_succ])))
              refine wpTx_last rfl (fun K hK => ?_)
              go_simp
              refine hK.out _ _ (NoPanic.normal ?_); clear hK K; (try simp only [Act.put, List.setIfInBounds_toArray, List.set_cons_zero, List.set_cons_succ])
              clear hHeld HF dw
              have hgm : gc ∈ ownL (.slice CA 0 0) := by rw [HCA.out]; simp [ownL, Value.ownBlock]
              have k7 : Keeps w5 (w5.setCell ⟨gc, u1 * 5 + 1 + u2, none⟩ (.int .i64 p)).drew (ownL (.slice CA 0 0)) := ((Keeps.refl w5 _).setCell (.inl hgm) _).drew
              have HM7 : Hid (RsM w0 (w5.setCell ⟨gc, u1 * 5 + 1 + u2, none⟩ (.int .i64 p)).drew ab AA FA PA CA UA BA ca cf cp cc cu cb { S with o := { S.o with code := codeK S (j + 1) } }) := Lib.hid (by
                have hh := HM5.out.code_in (l' := codeK S (j + 1)) k7 (by simp only [codeK_len]) (by
                  have h1 := HM5.out.code
                  rw [HCA.out] at h1 ⊢
                  have h2 := own_cellA h1 (u1 * 5 + 1 + u2) (.int .i64 p)
                  rw [set_flat5A _ u2 HU4.out (p : Int) _ _ HCi.out] at h2
                  rw [codeK_succ HU0.out]
                  unfold putU
                  rw [if_neg (by rw [HGood.out]; exact Bool.false_ne_true), HGet.out]
                  exact h2)
                exact hh)
              have HK7 := Lib.hid (HK5.out.trans k7)
              clear hgm k7
              go_wp2_with fail
              go_roundw
              case rel => exact ⟨j + 1, by omega, by go_num, HM7.out, HK7.out⟩
              case measure => simp [intOf]; omega
            · obtain rfl : nu = j := by omega
              obtain ⟨w8, hw8⟩ : ∃ w8, w8 = wr := ⟨wr, rfl⟩
              subst hw8
              have hcl : ∀ b ∈ ownL (.slice CA 0 0), w0.heap.size ≤ b := fun b hb => (own_ltA HM.out.code b hb).1
              have HKr3 : Hid (Keeps w w8 []) := Lib.hid (HK0.out.trans (Keeps.nil_of HMr.out.bel))
              have HBoxW : Hid (Blk w8 w.heap.size 39 #[.slice none 0 0, .slice none 0 0, .slice none 0 0, .slice none 0 0]) := Lib.hid ((HMr.out.bel.block _ HLo0.out).trans HBox.out)
              obtain ⟨o, ho⟩ : ∃ o : LObj, ({ S.o with code := codeK S S.uses.length } : LObj) = o := ⟨_, rfl⟩
              rw [ho] at HV
              have HM8 : Hid (RsM w0 w8 ab AA FA PA CA UA BA ca cf cp cc cu cb { S with o := o }) := Lib.hid (by
                have := HMr.out
                rw [← HNu.out, ho] at this
                exact this)
              have g0 := HM8.out.c0
              have g1 := HM8.out.c1
              have g2 := HM8.out.c2
              have g3 := HM8.out.c3
              dsimp only at g0 g1 g2 g3
              clear HMr hcl hlj hj ho
              have HBf : Hid (Blk ((((w8.setCell ⟨w.heap.size, 0, none⟩ (.slice AA o.atoms.length ca)).setCell ⟨w.heap.size, 1, none⟩ (.slice FA o.funs.length cf)).setCell ⟨w.heap.size, 2, none⟩ (.slice PA o.preds.length cp)).setCell ⟨w.heap.size, 3, none⟩ (.slice CA o.code.length cc)) w.heap.size 39 #[.slice AA o.atoms.length ca, .slice FA o.funs.length cf, .slice PA o.preds.length cp, .slice CA o.code.length cc]) := Lib.hid (((((HBoxW.out.set_ 0 (.slice AA o.atoms.length ca)).set_ 1 (.slice FA o.funs.length cf)).set_ 2 (.slice PA o.preds.length cp)).set_ 3 (.slice CA o.code.length cc)))
              have HKf : Hid (Keeps w ((((w8.setCell ⟨w.heap.size, 0, none⟩ (.slice AA o.atoms.length ca)).setCell ⟨w.heap.size, 1, none⟩ (.slice FA o.funs.length cf)).setCell ⟨w.heap.size, 2, none⟩ (.slice PA o.preds.length cp)).setCell ⟨w.heap.size, 3, none⟩ (.slice CA o.code.length cc)) []) := Lib.hid ((((HKr3.out.setCell (p := ⟨w.heap.size, 0, none⟩) (.inr (Nat.le_refl _)) _).setCell (p := ⟨w.heap.size, 1, none⟩) (.inr (Nat.le_refl _)) _).setCell (p := ⟨w.heap.size, 2, none⟩) (.inr (Nat.le_refl _)) _).setCell (p := ⟨w.heap.size, 3, none⟩) (.inr (Nat.le_refl _)) _)
              have f0 := HBoxW.out.frozen 0
              have v0 := HBoxW.out.cell 0
              have f1 := HBoxW.out.frozen 1
              have v1 := HBoxW.out.cell 1
              have f2 := HBoxW.out.frozen 2
              have v2 := HBoxW.out.cell 2
              have f3 := HBoxW.out.frozen 3
              have v3 := HBoxW.out.cell 3
              go_wp2_with fail
              have HOb2 : Hid (ObIs ((((w8.setCell ⟨w.heap.size, 0, none⟩ (.slice AA o.atoms.length ca)).setCell ⟨w.heap.size, 1, none⟩ (.slice FA o.funs.length cf)).setCell ⟨w.heap.size, 2, none⟩ (.slice PA o.preds.length cp)).setCell ⟨w.heap.size, 3, none⟩ (.slice CA o.code.length cc)) o AA FA PA CA ca cf cp cc) := Lib.hid (by
                have := HM8.out.ob2 (w2 := ((((w8.setCell ⟨w.heap.size, 0, none⟩ (.slice AA o.atoms.length ca)).setCell ⟨w.heap.size, 1, none⟩ (.slice FA o.funs.length cf)).setCell ⟨w.heap.size, 2, none⟩ (.slice PA o.preds.length cp)).setCell ⟨w.heap.size, 3, none⟩ (.slice CA o.code.length cc))) (M := [w.heap.size]) (((((Keeps.refl w8 _).setCell (.inl (by simp)) _).setCell (.inl (by simp)) _).setCell (.inl (by simp)) _).setCell (.inl (by simp)) _) (by have := HLo0.out; simp; omega)
                exact this)
              generalize ((((w8.setCell ⟨w.heap.size, 0, none⟩ (.slice AA o.atoms.length ca)).setCell ⟨w.heap.size, 1, none⟩ (.slice FA o.funs.length cf)).setCell ⟨w.heap.size, 2, none⟩ (.slice PA o.preds.length cp)).setCell ⟨w.heap.size, 3, none⟩ (.slice CA o.code.length cc)) = wF at *
              have y0 := HBf.out.cell 0
              have y1 := HBf.out.cell 1
              have y2 := HBf.out.cell 2
              have y3 := HBf.out.cell 3
              refine bodyPost_ret (v := .tuple #[.agg #[.slice AA o.atoms.length ca, .slice FA o.funs.length cf, .slice PA o.preds.length cp, .slice CA o.code.length cc], .int .i64 0, .int .i64 (-1)]) (by simp [results, Tryz.results9, go_sem, y0, y1, y2, y3]) rfl ?_
              rw [HV.out]
              exact ⟨AA, FA, PA, CA, ca, cf, cp, cc, rfl, HOb2.out, HKf.out⟩

end Go.Proofs.YtpcihhdalofdiaaGreatDoor
