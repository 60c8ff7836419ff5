/- The program's Unify. Printed by gen_mgunify.py. -/
import Derived.Test.YtjbomjnkjcafcaaMgSolved
import Derived.Test.YtjbomjnkjcafcaaMgBind
import Derived.Test.YtjbomjnkjcafcaaText4
namespace Go.Proofs.Ytjbomjnkjcafcaa
open Go.RowKit

theorem el_left : ElemT Try.prog 60 59 8 := elemT_of (b := 112) (z := .agg #[.int .i64 0, .int .i64 0, .string ⟨#[]⟩, .slice none 0 0, .int .i64 0, .int .i64 0, .string ⟨#[]⟩, .slice none 0 0]) Try.underlying60 (by kernel_rfl) (by omega) rfl (by omega)
/-- What Unify tells. -/
def UDone (w : World) (r : Res) (e : Ending) (w' : World) : Prop := Keeps w w' [] ∧ match r with
  | .ok s => ∃ A c, e = .returned (.tuple #[.slice A s.length c, .int .i64 0]) ∧ Sub w' (fun _ => True) (solvedT s) A
  | .cyc => e = .returned (.tuple #[.slice none 0 0, .int .i64 15])
  | .clash => e = .returned (.tuple #[.slice none 0 0, .int .i64 16])
set_option maxRecDepth 100000 in
set_option maxHeartbeats 6400000 in
theorem unify_any (Vs : List Int) (h9 : Few9 Vs) (h6 : Vs.length ≤ 6) (a b : Tm) (va vb : TV) (w : World) (ht : Tr w (fun _ => True) a va) (ht' : Tr w (fun _ => True) b vb) (ha : In Vs a) (hb : In Vs b) (da : tDep a ≤ d0) (db : tDep b ≤ d0)
    (f : Nat) (RES : Res) (hrun : uRun f [(a, b)] [] = some RES) : Calls Try.prog 11 #[tvV va, tvV vb] w (UDone w RES) := by
  have HUW := Lib.hid (UW.start ha hb da db)
  have HRun := Lib.hid hrun
  have HA := Lib.hid (ht.here.mono (S' := fun b => b < w.heap.size) fun b h => h.2)
  have HB := Lib.hid (ht'.here.mono (S' := fun b => b < w.heap.size) fun b h => h.2)
  have H9 := Lib.hid h9
  have H6 := Lib.hid h6
  clear ht ht' ha hb da db hrun h9 h6
  unfold tvV
  have hK0 : Keeps w (((w.alloc (.cells #[.int .i64 va.k, .int .i64 va.n, .string va.s, .slice va.A va.len va.c] 30)).alloc (.cells #[.int .i64 vb.k, .int .i64 vb.n, .string vb.s, .slice vb.A vb.len vb.c] 30)).alloc (.cells #[.int .i64 vb.k, .int .i64 vb.n, .string vb.s, .slice vb.A vb.len vb.c, .int .i64 va.k, .int .i64 va.n, .string va.s, .slice va.A va.len va.c] 59)) [] := (((Keeps.refl w []).alloc _).alloc _).alloc _
  have HU0 : Hid (US 33 59 w (((w.alloc (.cells #[.int .i64 va.k, .int .i64 va.n, .string va.s, .slice va.A va.len va.c] 30)).alloc (.cells #[.int .i64 vb.k, .int .i64 vb.n, .string vb.s, .slice vb.A vb.len vb.c] 30)).alloc (.cells #[.int .i64 vb.k, .int .i64 vb.n, .string vb.s, .slice vb.A vb.len vb.c, .int .i64 va.k, .int .i64 va.n, .string va.s, .slice va.A va.len va.c] 59)) [] [(a, b)] none 0 0 (some ⟨w.heap.size + 1 + 1, 0, none⟩) 1 1 [] [(vb, va)]) := by
    refine ⟨World.ownsRow_nil _ _ _ _, Prs.nil, rfl, ?_, Lst.nil.cons (HA.out.keep hK0) (HB.out.keep hK0), rfl, by simp [ownL, Value.ownBlock], hK0⟩
    exact ⟨by simp [lvE], .inr ⟨w.heap.size + 1 + 1, 1, #[.int .i64 vb.k, .int .i64 vb.n, .string vb.s, .slice vb.A vb.len vb.c, .int .i64 va.k, .int .i64 va.n, .string va.s, .slice va.A va.len va.c], rfl, by omega, Blk.newAt _ _ (by simp), by omega, by unfold maxLen; omega, rfl, by simp [lvE]⟩⟩
  clear hK0
  go_enter Try.func11, Try.ntmps11
  go_wp2_with fail
  go_loopg [6, 7] f (fun gk x6 x7 wr => ∃ s st A m c LA k lc ps ws, x6 = .slice A m c ∧ x7 = .slice LA k lc ∧ uRun gk st s = some RES ∧ UW Vs st s ∧ US 33 59 w wr s st A m c LA k lc ps ws)
  case atStart => exact ⟨[], [(a, b)], none, 0, 0, some ⟨w.heap.size + 1 + 1, 0, none⟩, 1, 1, [], [(vb, va)], rfl, rfl, HRun.out, HUW.out, HU0.out⟩
  case round =>
    clear HRun HUW HU0 HA HB
    obtain ⟨s, st, A, m, c, LA, k, lc, ps, ws, rfl, rfl, hrun, huw, hus⟩ := hrel
    cases st with
    | nil =>
      obtain rfl : k = 0 := by have := hus.sk; simpa using this.symm
      have HRes : Hid (RES = .ok s) := by
        cases gk with
        | zero => simp [uRun] at hrun
        | succ g => simp [uRun] at hrun; exact hrun.symm
      have hs6 := (huw.short H6.out).2
      have hnd : (s.map (·.1)).Nodup := by obtain ⟨g, r, ls, hv⟩ := huw; exact hv.ui.si.nd
      have HC := Lib.hid (solved_any s A m c wr (hus.sub.mono fun _ _ => trivial) hus.sm (by have := hus.sm; omega) (fun p hp => tWid_of_right (huw.sWid p hp)) hnd)
      have HSm := Lib.hid hus.sm
      have HKr := Lib.hid hus.keep
      clear hus huw hrun hs6 hnd
      go_wp2_with fail
      refine HC.out.mono ?_
      rintro e w5 ⟨A', c', rfl, hs5, k5⟩
      have HS5 := Lib.hid hs5
      clear hs5 HC
      go_wp2_with fail
      go_ret2
      exact ⟨HKr.out.trans k5, by rw [HRes.out]; exact ⟨A', c', by rw [HSm.out]; rfl, HS5.out⟩⟩
    | cons p st =>
      obtain ⟨a, b⟩ := p
      obtain ⟨k, lg, u, v, ws, rfl, rfl, hlc, hta, htb, hcell, hus2⟩ := hus.pop
      have p0 : wr.cell? ⟨lg, k * 8, none⟩ = some (.int .i64 v.k) := by have := hcell 0 _ rfl; simpa using this
      have p1 : wr.cell? ⟨lg, k * 8 + 1, none⟩ = some (.int .i64 v.n) := by have := hcell 1 _ rfl; simpa using this
      have p2 : wr.cell? ⟨lg, k * 8 + 2, none⟩ = some (.string v.s) := by have := hcell 2 _ rfl; simpa using this
      have p3 : wr.cell? ⟨lg, k * 8 + 3, none⟩ = some (.slice v.A v.len v.c) := by have := hcell 3 _ rfl; simpa using this
      have p4 : wr.cell? ⟨lg, k * 8 + 4, none⟩ = some (.int .i64 u.k) := by have := hcell 4 _ rfl; simpa using this
      have p5 : wr.cell? ⟨lg, k * 8 + 5, none⟩ = some (.int .i64 u.n) := by have := hcell 5 _ rfl; simpa using this
      have p6 : wr.cell? ⟨lg, k * 8 + 6, none⟩ = some (.string u.s) := by have := hcell 6 _ rfl; simpa using this
      have p7 : wr.cell? ⟨lg, k * 8 + 7, none⟩ = some (.slice u.A u.len u.c) := by have := hcell 7 _ rfl; simpa using this
      have hshort := (huw.short H6.out).1
      have hk9 : k ≤ 1000000 := by have := hus.sk; simp only [List.length_cons] at this hshort; omega
      have HTa := Lib.hid hta
      have HTb := Lib.hid htb
      have HUW := Lib.hid huw
      have HU := Lib.hid hus2
      have HRun := Lib.hid hrun
      have b0 : (0 : Int) ≤ (k : Int) := Int.natCast_nonneg _
      have b1 : (k : Int) < (k : Int) + 1 := by omega
      have b2 : wrap64 ((k : Int) + 1 - 1) = (k : Int) := by unfold wrap64; omega
      have b3 : ((k : Int) ≤ (lc : Int)) := by omega
      clear hus hta htb huw hus2 hrun hcell hshort
      go_upto_region 6 with fail
      have hPb : Blk (wr.alloc (.cells #[.int .i64 v.k, .int .i64 v.n, .string v.s, .slice v.A v.len v.c, .int .i64 u.k, .int .i64 u.n, .string u.s, .slice u.A u.len u.c] 59)) wr.heap.size 59 #[.int .i64 v.k, .int .i64 v.n, .string v.s, .slice v.A v.len v.c, .int .i64 u.k, .int .i64 u.n, .string u.s, .slice u.A u.len u.c] := Blk.new _ _ _
      have hK : Keeps wr (wr.alloc (.cells #[.int .i64 v.k, .int .i64 v.n, .string v.s, .slice v.A v.len v.c, .int .i64 u.k, .int .i64 u.n, .string u.s, .slice u.A u.len u.c] 59)) [] := (Keeps.refl wr []).alloc _
      generalize wr.alloc (.cells #[.int .i64 v.k, .int .i64 v.n, .string v.s, .slice v.A v.len v.c, .int .i64 u.k, .int .i64 u.n, .string u.s, .slice u.A u.len u.c] 59) = wp at hPb hK ⊢
      have HPb := Lib.hid hPb
      have HU1 := Lib.hid (HU.out.keep0 hK)
      have HTa1 := Lib.hid (HTa.out.keep hK)
      have HTb1 := Lib.hid (HTb.out.keep hK)
      generalize wr.heap.size = pb at *
      clear hPb hK HU HTa HTb p0 p1 p2 p3 p4 p5 p6 p7 b0 b1 b2 b3
      have HTop := Lib.hid (HUW.out.tops H6.out)
      have HP : Hid (∀ W', Keeps wp W' [] → (Keeps wp W' [] ∧ W'.cell? ⟨pb, 0, none⟩ = some (.int .i64 v.k) ∧ W'.cell? ⟨pb, 1, none⟩ = some (.int .i64 v.n) ∧ W'.cell? ⟨pb, 2, none⟩ = some (.string v.s) ∧ W'.cell? ⟨pb, 3, none⟩ = some (.slice v.A v.len v.c) ∧ W'.cell? ⟨pb, 4, none⟩ = some (.int .i64 u.k) ∧ W'.cell? ⟨pb, 5, none⟩ = some (.int .i64 u.n) ∧ W'.cell? ⟨pb, 6, none⟩ = some (.string u.s) ∧ W'.cell? ⟨pb, 7, none⟩ = some (.slice u.A u.len u.c))) := fun W' k => by
        have b := HPb.out.keep k (by simp)
        exact ⟨k, b.cell 0, b.cell 1, b.cell 2, b.cell 3, b.cell 4, b.cell 5, b.cell 6, b.cell 7⟩
      refine wp_region_tw (fun W' => Keeps wp W' [] ∧ W'.cell? ⟨pb, 0, none⟩ = some (.int .i64 v.k) ∧ W'.cell? ⟨pb, 1, none⟩ = some (.int .i64 v.n) ∧ W'.cell? ⟨pb, 2, none⟩ = some (.string v.s) ∧ W'.cell? ⟨pb, 3, none⟩ = some (.slice v.A v.len v.c) ∧ W'.cell? ⟨pb, 4, none⟩ = some (.int .i64 u.k) ∧ W'.cell? ⟨pb, 5, none⟩ = some (.int .i64 u.n) ∧ W'.cell? ⟨pb, 6, none⟩ = some (.string u.s) ∧ W'.cell? ⟨pb, 7, none⟩ = some (.slice u.A u.len u.c)) 10 [.op ⟨8, 9, fun b => .pointer (some ⟨b, 0, none⟩), 30, #[.int .i64 0, .int .i64 0, .string ⟨#[]⟩, .slice none 0 0]⟩, .op ⟨9, 10, fun b => .pointer (some ⟨b, 0, none⟩), 30, #[.int .i64 0, .int .i64 0, .string ⟨#[]⟩, .slice none 0 0]⟩, .take 0, .take 1, .take 2, .take 4, .take 5, .take 6, .go 3, .go 7, .cl] [(10, false), (11, false)] (by kernel_rfl) (by kernel_rfl) (fun w1 w2 k h => HP.out _ (h.1.trans k)) (by exact HP.out _ (Keeps.refl _ []).drew) (fun _ => ?_)
      (refine wpTw_op rfl rfl (by intro w' hSw; (try dsimp only at hSw); go_simp; (try with_reducible rfl); done) (by rfl) ?_; simp only [List.nil_append])
      (refine wpTw_op rfl rfl (by intro w' hSw; (try dsimp only at hSw); go_simp; (try with_reducible rfl); done) (by rfl) ?_; simp only [List.nil_append, List.cons_append])
      (repeat (first | (refine wpTw_take (v := ?_) rfl ?_ (by rfl) ?_; rotate_left; (focus (intro w' hSw; (try dsimp only at hSw); go_simp; (try with_reducible rfl); done)); simp only [Act.put, List.setIfInBounds_toArray, List.set_cons_zero, List.set_cons_succ]) | (refine wpTw_skip rfl (by rfl) ?_; simp only [Act.put, List.setIfInBounds_toArray, List.set_cons_zero, List.set_cons_succ])))
      refine wpTw_go rfl (fun W1 hk1 hS1 K hK => ?_)
      have J1 := Lib.hid hS1.1
      have L1 := Lib.hid hk1
      clear hS1 hk1
      go_simp
      refine (top_any s A m c HU1.out.sm (by have := (HUW.out.short H6.out).2; have := HU1.out.sm; omega) a u _ (fun b => b < w.heap.size) (fun b hb => Nat.lt_of_lt_of_le hb (HU1.out.keep.trans J1.out).size) (HTa1.out.keep J1.out) (HU1.out.keep0 J1.out).sub (HTop.out a (by simp)).2.2.2).mono ?_
      rintro e w1 ⟨x1, rfl, hx1, k1⟩
      have K1 := Lib.hid (J1.out.trans k1)
      have N1 := Lib.hid (L1.out.trans k1)
      have HX1 := Lib.hid hx1
      unfold tvV
      clear hx1
      refine hK.out _ _ k1 (HP.out _ K1.out) (fun _ => ?_)
      clear hK K
      (try simp only [Act.put, List.setIfInBounds_toArray, List.set_cons_zero, List.set_cons_succ])
      refine wpTw_go rfl (fun W2 hk2 hS2 K hK => ?_)
      have J2 := Lib.hid hS2.1
      have L2 := Lib.hid hk2
      clear hS2 hk2
      go_simp
      refine (top_any s A m c HU1.out.sm (by have := (HUW.out.short H6.out).2; have := HU1.out.sm; omega) b v _ (fun b => b < w.heap.size) (fun b hb => Nat.lt_of_lt_of_le hb (HU1.out.keep.trans J2.out).size) (HTb1.out.keep J2.out) (HU1.out.keep0 J2.out).sub (HTop.out b (by simp)).2.2.2).mono ?_
      rintro e w2 ⟨y1, rfl, hy1, k2⟩
      have K2 := Lib.hid (J2.out.trans k2)
      have N2 := Lib.hid (L2.out.trans k2)
      have HY1 := Lib.hid hy1
      unfold tvV
      clear hy1
      refine hK.out _ _ k2 (HP.out _ K2.out) (fun _ => ?_)
      clear hK K
      (try simp only [Act.put, List.setIfInBounds_toArray, List.set_cons_zero, List.set_cons_succ])
      refine wpTw_cl (fun W3 hk3 hS3 => ?_)
      intro xb xb_b xb_u xb_x xb_B
      dsimp only at xb_B
      intro yb yb_b yb_u yb_x yb_B
      dsimp only at yb_B
      have J3 := Lib.hid hS3.1
      have L3 := Lib.hid hk3
      clear hS3 hk3
      have xb_H := Lib.hid xb_B
      clear xb_x xb_B
      have yb_H := Lib.hid yb_B
      clear yb_x yb_B
      clear xb_u
      simp only [List.mem_cons, List.not_mem_nil, or_false] at yb_u
      (try simp only [Act.put, List.setIfInBounds_toArray, List.set_cons_zero, List.set_cons_succ])
      have q := xb_H.out
      have p := yb_H.out
      have qc0 := q.cell 0
      have qf0 := q.frozen 0
      have qc1 := q.cell 1
      have qf1 := q.frozen 1
      have qc2 := q.cell 2
      have qf2 := q.frozen 2
      have qc3 := q.cell 3
      have qf3 := q.frozen 3
      have pc0 := p.cell 0
      have pf0 := p.frozen 0
      have pc1 := p.cell 1
      have pf1 := p.frozen 1
      have pc2 := p.cell 2
      have pf2 := p.frozen 2
      have pc3 := p.cell 3
      have pf3 := p.frozen 3
      change wpTy _ _ _ _ _ _ _ _
      refine wpTy_tail rfl (by decide) (fun K hK => ?_)
      go_simp
      refine hK.out _ _ ?_; clear hK K; (try simp only [Act.put, List.setIfInBounds_toArray, List.set_cons_zero, List.set_cons_succ])
      refine wpTy_last rfl (by decide) (fun K hK => ?_)
      go_simp
      refine hK.out _ _ (NoPanic.normal ?_)
      clear hK K
      (try simp only [Act.put, List.setIfInBounds_toArray, List.set_cons_zero, List.set_cons_succ])
      change Exit.then _ _ _ _ (set4 (set4 W3 xb (.int .i64 x1.k) (.int .i64 x1.n) (.string x1.s) (.slice x1.A x1.len x1.c)) yb (.int .i64 y1.k) (.int .i64 y1.n) (.string y1.s) (.slice y1.A y1.len y1.c))
      have hwp := HU1.out.keep.size
      have HX := Lib.hid ((q.put4 (.int .i64 x1.k) (.int .i64 x1.n) (.string x1.s) (.slice x1.A x1.len x1.c)).far4 (g' := yb) (by omega) (.int .i64 y1.k) (.int .i64 y1.n) (.string y1.s) (.slice y1.A y1.len y1.c))
      have HY := Lib.hid ((p.far4 (g' := xb) (by omega) (.int .i64 x1.k) (.int .i64 x1.n) (.string x1.s) (.slice x1.A x1.len x1.c)).put4 (.int .i64 y1.k) (.int .i64 y1.n) (.string y1.s) (.slice y1.A y1.len y1.c))
      have HK7 := Lib.hid ((J3.out.put4 (g := xb) (.inr (by omega)) (.int .i64 x1.k) (.int .i64 x1.n) (.string x1.s) (.slice x1.A x1.len x1.c)).put4 (g := yb) (.inr (by omega)) (.int .i64 y1.k) (.int .i64 y1.n) (.string y1.s) (.slice y1.A y1.len y1.c))
      have HTx := Lib.hid (((HX1.out.keep (N2.out.trans L3.out)).far4 (g := xb) (by omega) (.int .i64 x1.k) (.int .i64 x1.n) (.string x1.s) (.slice x1.A x1.len x1.c)).far4 (g := yb) (by omega) (.int .i64 y1.k) (.int .i64 y1.n) (.string y1.s) (.slice y1.A y1.len y1.c))
      have HTy := Lib.hid (((HY1.out.keep L3.out).far4 (g := xb) (by omega) (.int .i64 x1.k) (.int .i64 x1.n) (.string x1.s) (.slice x1.A x1.len x1.c)).far4 (g := yb) (by omega) (.int .i64 y1.k) (.int .i64 y1.n) (.string y1.s) (.slice y1.A y1.len y1.c))
      generalize set4 (set4 W3 xb (.int .i64 x1.k) (.int .i64 x1.n) (.string x1.s) (.slice x1.A x1.len x1.c)) yb (.int .i64 y1.k) (.int .i64 y1.n) (.string y1.s) (.slice y1.A y1.len y1.c) = w7 at HX HY HK7 HTx HTy ⊢
      have HU7 := Lib.hid (HU1.out.keep0 HK7.out)
      have hxy : xb ≠ yb := by omega
      have hxw : w.heap.size ≤ xb ∧ w.heap.size ≤ yb := by omega
      have HNo : Hid (∀ b ∈ [xb, yb], b ∉ ownL (.slice A m c) ∧ b ∉ ownL (.slice (some ⟨lg, 0, none⟩) k lc) ∧ w.heap.size ≤ b) := by
        intro b hb
        have h1 : wp.heap.size ≤ b ∧ w.heap.size ≤ b := by
          simp only [List.mem_cons, List.not_mem_nil, or_false] at hb
          rcases hb with rfl | rfl
          · exact ⟨xb_b, hxw.1⟩
          · exact ⟨yb_b, hxw.2⟩
        exact ⟨fun hm => by have := (own_lt HU1.out.own1 hm).2; omega, fun hm => by have := (own_lt HU1.out.own2 hm).2; omega, h1.2⟩
      clear HX1 HY1 HP J1 J2 J3 K1 K2 L1 L2 L3 N1 N2 q p k1 k2 xb_b yb_b yb_u xb_H yb_H HPb HU1 HTa1 HTb1 HK7 hwp
      clear qc0 qf0 qc1 qf1 qc2 qf2 qc3 qf3 pc0 pf0 pc1 pf1 pc2 pf2 pc3 pf3
      have hta := HTop.out a (.inl rfl)
      have htb := HTop.out b (.inr rfl)
      have hpush := HUW.out.push H6.out
      obtain ⟨x, hxe⟩ : ∃ x, topD s deepest a = x := ⟨_, rfl⟩
      obtain ⟨y, hye⟩ : ∃ y, topD s deepest b = y := ⟨_, rfl⟩
      obtain ⟨g, rfl⟩ : ∃ g, gk = g + 1 := by
        cases gk with
        | zero => have := HRun.out; simp [uRun] at this
        | succ g => exact ⟨g, rfl⟩
      have hstep := HRun.out
      rw [uRun, stp, hxe, hye] at hstep
      rw [hxe] at hta HTx hpush
      rw [hye] at htb HTy hpush
      have HUS := Lib.hid HUW.out.skip
      have HSw : Hid (∀ p ∈ s, tWid p.2) := fun p hp => tWid_of_right (HUW.out.sWid p hp)
      have HmB : Hid (m ≤ 6) := by have := (HUW.out.short H6.out).2; have := HU7.out.sm; show m ≤ 6; omega
      have HBind : Hid (∀ n z, n ∈ Vs → sOf s n = none → In Vs z → tDep z ≤ d0 → stpV s n z = .bnd n z → UW Vs st (s ++ [(n, z)])) := fun n z h1 h2 h3 h4 h5 => HUW.out.bind H9.out H6.out h1 h2 h3 h4 h5
      have HFew : Hid (∀ z, In Vs z → (tVars [apD s deepest z]).length ≤ 1000000) := fun z hz => HUW.out.few H9.out H6.out hz
      have HSo : Hid (∀ b ∈ ownL (.slice A m c), ¬ b < w.heap.size) := fun b hb hlt => by have := (own_lt HU7.out.own1 hb).1; omega
      have HPush := Lib.hid hpush
      have HStep := Lib.hid hstep
      have HTa := Lib.hid hta.2
      have HTb := Lib.hid htb.2
      clear hta htb hstep hxe hye HTop HRun hpush
      obtain ⟨e1, e2, e3, z1, z2⟩ := HTx.out.inv
      obtain ⟨e1', e2', e3', z1', z2'⟩ := HTy.out.inv
      clear z1 z2 z1' z2'
      obtain ⟨xk, xn, xs, xl⟩ := x
      obtain ⟨yk, yn, ys, yl⟩ := y
      obtain ⟨x1, x2, x3, xA, xm, xc⟩ := x1
      obtain ⟨y1, y2, y3, yA, ym, yc⟩ := y1
      replace e1 : xk = x1 := e1.symm
      replace e2 : xn = x2 := e2.symm
      replace e3 : xs = x3 := e3.symm
      replace e1' : yk = y1 := e1'.symm
      replace e2' : yn = y2 := e2'.symm
      replace e3' : ys = y3 := e3'.symm
      subst e1 e2 e3 e1' e2' e3'
      dsimp only at HX HY
      by_cases hx0 : xk = 0
      · subst hx0
        by_cases hyn : yk = 0 ∧ xn = yn
        · obtain ⟨hy0, hnn⟩ := hyn
          subst hy0 hnn
          have HRes : Hid (uRun g st s = some RES) := by
            have h1 := HStep.out
            rw [stpT, if_pos (show (Tm.mk 0 xn xs xl).k = 0 from rfl), if_pos (show (Tm.mk 0 xn ys yl).k = 0 ∧ (Tm.mk 0 xn xs xl).n = (Tm.mk 0 xn ys yl).n from ⟨rfl, rfl⟩)] at h1
            exact h1
          have qc0 := HX.out.cell 0
          have qf0 := HX.out.frozen 0
          have qc1 := HX.out.cell 1
          have qf1 := HX.out.frozen 1
          have qc2 := HX.out.cell 2
          have qf2 := HX.out.frozen 2
          have qc3 := HX.out.cell 3
          have qf3 := HX.out.frozen 3
          have pc0 := HY.out.cell 0
          have pf0 := HY.out.frozen 0
          have pc1 := HY.out.cell 1
          have pf1 := HY.out.frozen 1
          have pc2 := HY.out.cell 2
          have pf2 := HY.out.frozen 2
          have pc3 := HY.out.cell 3
          have pf3 := HY.out.frozen 3
          go_wp2_with fail
          go_roundg g
          case measure => omega
          case rel => exact ⟨s, st, A, m, c, some ⟨lg, 0, none⟩, k, lc, ps, ws, rfl, rfl, HRes.out, HUS.out, HU7.out⟩
        · have HSt : Hid ((match (stpV s xn (.mk yk yn ys yl) : Stp) with | .skip => uRun g st s | .cyc => some .cyc | .bnd n y => uRun g st (s ++ [(n, y)]) | .clash => some .clash | .push l => uRun g (l ++ st) s) = some RES) := by
            have h1 := HStep.out
            rw [stpT, if_pos (show (Tm.mk 0 xn xs xl).k = 0 from rfl), if_neg (show ¬ ((Tm.mk yk yn ys yl).k = 0 ∧ (Tm.mk 0 xn xs xl).n = (Tm.mk yk yn ys yl).n) from hyn)] at h1
            exact h1
          have HZ : Hid (In Vs (.mk yk yn ys yl) ∧ tDep (.mk yk yn ys yl) ≤ d0 ∧ xn ∈ Vs ∧ sOf s xn = none) := ⟨HTb.out.1, HTb.out.2.1, (HTa.out.1.var rfl).2, HTa.out.2.2 rfl⟩
          have qc0 := HX.out.cell 0
          have qf0 := HX.out.frozen 0
          have qc1 := HX.out.cell 1
          have qf1 := HX.out.frozen 1
          have qc2 := HX.out.cell 2
          have qf2 := HX.out.frozen 2
          have qc3 := HX.out.cell 3
          have qf3 := HX.out.frozen 3
          have pc0 := HY.out.cell 0
          have pf0 := HY.out.frozen 0
          have pc1 := HY.out.cell 1
          have pf1 := HY.out.frozen 1
          have pc2 := HY.out.cell 2
          have pf2 := HY.out.frozen 2
          have pc3 := HY.out.cell 3
          have pf3 := HY.out.frozen 3
          by_cases hy0 : yk = 0
          · subst hy0
            have e5 : (xn == yn) = false := by simpa using (show ¬ xn = yn from fun h => hyn ⟨rfl, h⟩)
            clear hyn
            cases hany : (tVars [apD s deepest (.mk 0 yn ys yl)]).any (hasI xn) with
            | true =>
              have HRes : Hid (RES = .cyc) := by
                have h1 := HSt.out
                rw [stpV, if_pos hany] at h1
                exact (Option.some.inj h1).symm
              have HC := Lib.hid (bind_cyc s A m c w.heap.size xn (.mk 0 yn ys yl) ⟨0, yn, ys, yA, ym, yc⟩ w7 (fun b => b < w.heap.size) ps HU7.out.own1 HU7.out.prs HU7.out.sm (by have := HmB.out; omega) (fun b hb => Nat.lt_of_lt_of_le hb HU7.out.keep.size) HSo.out HTy.out (tWid_of_right HZ.out.1.rt) HSw.out (HFew.out _ HZ.out.1) hany)
              unfold tvV at HC
              clear hany
              go_wp2_with fail
              refine HC.out.mono ?_
              rintro e w9 ⟨rfl, k9⟩
              go_wp2_with fail
              go_ret2
              exact ⟨HU7.out.keep.trans k9, by rw [HRes.out]; rfl⟩
            | false =>
              have HRes : Hid (uRun g st (s ++ [(xn, (.mk 0 yn ys yl))]) = some RES) := by
                have h1 := HSt.out
                rw [stpV, if_neg (by rw [hany]; simp)] at h1
                exact h1
              have HW : Hid (UW Vs st (s ++ [(xn, (.mk 0 yn ys yl))])) := HBind.out _ _ HZ.out.2.2.1 HZ.out.2.2.2 HZ.out.1 HZ.out.2.1 (by rw [stpV, if_neg (by rw [hany]; simp)])
              have HC := Lib.hid (bind_ok s A m c w.heap.size xn (.mk 0 yn ys yl) ⟨0, yn, ys, yA, ym, yc⟩ w7 (fun b => b < w.heap.size) ps HU7.out.own1 HU7.out.prs HU7.out.sm (by have := HmB.out; omega) HU7.out.keep.size (fun b hb => Nat.lt_of_lt_of_le hb HU7.out.keep.size) HSo.out HTy.out (tWid_of_right HZ.out.1.rt) HSw.out (HFew.out _ HZ.out.1) hany)
              unfold tvV at HC
              clear hany
              go_wp2_with fail
              refine HC.out.mono ?_
              rintro e w9 ⟨A', c', rfl, ho9, hp9, hk9, hn9⟩
              have HN := Lib.hid (HU7.out.bound ho9 hp9 hk9 hn9)
              clear ho9 hp9 hk9 hn9 HC
              go_wp2_with fail
              go_roundg g
              case measure => omega
              case rel => exact ⟨s ++ [(xn, (.mk 0 yn ys yl))], st, A', m + 1, c', some ⟨lg, 0, none⟩, k, lc, _, ws, rfl, rfl, HRes.out, HW.out, HN.out⟩

          · have e5 : (yk == 0) = false := by simpa using hy0
            clear hyn
            cases hany : (tVars [apD s deepest (.mk yk yn ys yl)]).any (hasI xn) with
            | true =>
              have HRes : Hid (RES = .cyc) := by
                have h1 := HSt.out
                rw [stpV, if_pos hany] at h1
                exact (Option.some.inj h1).symm
              have HC := Lib.hid (bind_cyc s A m c w.heap.size xn (.mk yk yn ys yl) ⟨yk, yn, ys, yA, ym, yc⟩ w7 (fun b => b < w.heap.size) ps HU7.out.own1 HU7.out.prs HU7.out.sm (by have := HmB.out; omega) (fun b hb => Nat.lt_of_lt_of_le hb HU7.out.keep.size) HSo.out HTy.out (tWid_of_right HZ.out.1.rt) HSw.out (HFew.out _ HZ.out.1) hany)
              unfold tvV at HC
              clear hany
              go_wp2_with fail
              refine HC.out.mono ?_
              rintro e w9 ⟨rfl, k9⟩
              go_wp2_with fail
              go_ret2
              exact ⟨HU7.out.keep.trans k9, by rw [HRes.out]; rfl⟩
            | false =>
              have HRes : Hid (uRun g st (s ++ [(xn, (.mk yk yn ys yl))]) = some RES) := by
                have h1 := HSt.out
                rw [stpV, if_neg (by rw [hany]; simp)] at h1
                exact h1
              have HW : Hid (UW Vs st (s ++ [(xn, (.mk yk yn ys yl))])) := HBind.out _ _ HZ.out.2.2.1 HZ.out.2.2.2 HZ.out.1 HZ.out.2.1 (by rw [stpV, if_neg (by rw [hany]; simp)])
              have HC := Lib.hid (bind_ok s A m c w.heap.size xn (.mk yk yn ys yl) ⟨yk, yn, ys, yA, ym, yc⟩ w7 (fun b => b < w.heap.size) ps HU7.out.own1 HU7.out.prs HU7.out.sm (by have := HmB.out; omega) HU7.out.keep.size (fun b hb => Nat.lt_of_lt_of_le hb HU7.out.keep.size) HSo.out HTy.out (tWid_of_right HZ.out.1.rt) HSw.out (HFew.out _ HZ.out.1) hany)
              unfold tvV at HC
              clear hany
              go_wp2_with fail
              refine HC.out.mono ?_
              rintro e w9 ⟨A', c', rfl, ho9, hp9, hk9, hn9⟩
              have HN := Lib.hid (HU7.out.bound ho9 hp9 hk9 hn9)
              clear ho9 hp9 hk9 hn9 HC
              go_wp2_with fail
              go_roundg g
              case measure => omega
              case rel => exact ⟨s ++ [(xn, (.mk yk yn ys yl))], st, A', m + 1, c', some ⟨lg, 0, none⟩, k, lc, _, ws, rfl, rfl, HRes.out, HW.out, HN.out⟩

      · have e4 : (xk == 0) = false := by simpa using hx0
        have e6 : (xk != 0) = true := by simpa using hx0
        by_cases hy0 : yk = 0
        · subst hy0
          have HSt : Hid ((match (stpV s yn (.mk xk xn xs xl) : Stp) with | .skip => uRun g st s | .cyc => some .cyc | .bnd n y => uRun g st (s ++ [(n, y)]) | .clash => some .clash | .push l => uRun g (l ++ st) s) = some RES) := by
            have h1 := HStep.out
            rw [stpT, if_neg (show ¬ (Tm.mk xk xn xs xl).k = 0 from hx0), if_pos (show (Tm.mk 0 yn ys yl).k = 0 from rfl)] at h1
            exact h1
          have HZ : Hid (In Vs (.mk xk xn xs xl) ∧ tDep (.mk xk xn xs xl) ≤ d0 ∧ yn ∈ Vs ∧ sOf s yn = none) := ⟨HTa.out.1, HTa.out.2.1, (HTb.out.1.var rfl).2, HTb.out.2.2 rfl⟩
          have qc0 := HX.out.cell 0
          have qf0 := HX.out.frozen 0
          have qc1 := HX.out.cell 1
          have qf1 := HX.out.frozen 1
          have qc2 := HX.out.cell 2
          have qf2 := HX.out.frozen 2
          have qc3 := HX.out.cell 3
          have qf3 := HX.out.frozen 3
          have pc0 := HY.out.cell 0
          have pf0 := HY.out.frozen 0
          have pc1 := HY.out.cell 1
          have pf1 := HY.out.frozen 1
          have pc2 := HY.out.cell 2
          have pf2 := HY.out.frozen 2
          have pc3 := HY.out.cell 3
          have pf3 := HY.out.frozen 3
          have ks : Keeps w7 (set4 (set4 w7 xb (.int .i64 0) (.int .i64 yn) (.string ys) (.slice yA ym yc)) yb (.int .i64 xk) (.int .i64 xn) (.string xs) (.slice xA xm xc)) [xb, yb] := ((Keeps.refl w7 [xb, yb]).put4 (g := xb) (.inl (by simp)) (.int .i64 0) (.int .i64 yn) (.string ys) (.slice yA ym yc)).put4 (g := yb) (.inl (by simp)) (.int .i64 xk) (.int .i64 xn) (.string xs) (.slice xA xm xc)
          have HX2 := Lib.hid ((HX.out.put4 (.int .i64 0) (.int .i64 yn) (.string ys) (.slice yA ym yc)).far4 hxy (.int .i64 xk) (.int .i64 xn) (.string xs) (.slice xA xm xc))
          have HY2 := Lib.hid ((HY.out.far4 (Ne.symm hxy) (.int .i64 0) (.int .i64 yn) (.string ys) (.slice yA ym yc)).put4 (.int .i64 xk) (.int .i64 xn) (.string xs) (.slice xA xm xc))
          have HU8 := Lib.hid (HU7.out.keepL ks HNo.out)
          have HT8 := Lib.hid (HTx.out.keepL ks (fun b hb hlt => by have := (HNo.out b hb).2.2; omega))
          clear ks
          have hyx : ¬ yb = xb := Ne.symm hxy
          go_upto_region 10 with fail
          change Code.wp _ _ _ _ (set4 (set4 w7 xb (.int .i64 0) (.int .i64 yn) (.string ys) (.slice yA ym yc)) yb (.int .i64 xk) (.int .i64 xn) (.string xs) (.slice xA xm xc))
          generalize set4 (set4 w7 xb (.int .i64 0) (.int .i64 yn) (.string ys) (.slice yA ym yc)) yb (.int .i64 xk) (.int .i64 xn) (.string xs) (.slice xA xm xc) = w8 at HX2 HY2 HU8 HT8 ⊢
          clear qc0 qf0 qc1 qf1 qc2 qf2 qc3 qf3 pc0 pf0 pc1 pf1 pc2 pf2 pc3 pf3
          have qc0 := HX2.out.cell 0
          have qf0 := HX2.out.frozen 0
          have qc1 := HX2.out.cell 1
          have qf1 := HX2.out.frozen 1
          have qc2 := HX2.out.cell 2
          have qf2 := HX2.out.frozen 2
          have qc3 := HX2.out.cell 3
          have qf3 := HX2.out.frozen 3
          have pc0 := HY2.out.cell 0
          have pf0 := HY2.out.frozen 0
          have pc1 := HY2.out.cell 1
          have pf1 := HY2.out.frozen 1
          have pc2 := HY2.out.cell 2
          have pf2 := HY2.out.frozen 2
          have pc3 := HY2.out.cell 3
          have pf3 := HY2.out.frozen 3
          cases hany : (tVars [apD s deepest (.mk xk xn xs xl)]).any (hasI yn) with
          | true =>
            have HRes : Hid (RES = .cyc) := by
              have h1 := HSt.out
              rw [stpV, if_pos hany] at h1
              exact (Option.some.inj h1).symm
            have HC := Lib.hid (bind_cyc s A m c w.heap.size yn (.mk xk xn xs xl) ⟨xk, xn, xs, xA, xm, xc⟩ w8 (fun b => b < w.heap.size) ps HU8.out.own1 HU8.out.prs HU8.out.sm (by have := HmB.out; omega) (fun b hb => Nat.lt_of_lt_of_le hb HU8.out.keep.size) HSo.out HT8.out (tWid_of_right HZ.out.1.rt) HSw.out (HFew.out _ HZ.out.1) hany)
            unfold tvV at HC
            clear hany
            go_wp2_with fail
            refine HC.out.mono ?_
            rintro e w9 ⟨rfl, k9⟩
            go_wp2_with fail
            go_ret2
            exact ⟨HU8.out.keep.trans k9, by rw [HRes.out]; rfl⟩
          | false =>
            have HRes : Hid (uRun g st (s ++ [(yn, (.mk xk xn xs xl))]) = some RES) := by
              have h1 := HSt.out
              rw [stpV, if_neg (by rw [hany]; simp)] at h1
              exact h1
            have HW : Hid (UW Vs st (s ++ [(yn, (.mk xk xn xs xl))])) := HBind.out _ _ HZ.out.2.2.1 HZ.out.2.2.2 HZ.out.1 HZ.out.2.1 (by rw [stpV, if_neg (by rw [hany]; simp)])
            have HC := Lib.hid (bind_ok s A m c w.heap.size yn (.mk xk xn xs xl) ⟨xk, xn, xs, xA, xm, xc⟩ w8 (fun b => b < w.heap.size) ps HU8.out.own1 HU8.out.prs HU8.out.sm (by have := HmB.out; omega) HU8.out.keep.size (fun b hb => Nat.lt_of_lt_of_le hb HU8.out.keep.size) HSo.out HT8.out (tWid_of_right HZ.out.1.rt) HSw.out (HFew.out _ HZ.out.1) hany)
            unfold tvV at HC
            clear hany
            go_wp2_with fail
            refine HC.out.mono ?_
            rintro e w9 ⟨A', c', rfl, ho9, hp9, hk9, hn9⟩
            have HN := Lib.hid (HU8.out.bound ho9 hp9 hk9 hn9)
            clear ho9 hp9 hk9 hn9 HC
            go_wp2_with fail
            go_roundg g
            case measure => omega
            case rel => exact ⟨s ++ [(yn, (.mk xk xn xs xl))], st, A', m + 1, c', some ⟨lg, 0, none⟩, k, lc, _, ws, rfl, rfl, HRes.out, HW.out, HN.out⟩

        · have e5 : (yk == 0) = false := by simpa using hy0
          have HSt : Hid ((match (stpN (.mk xk xn xs xl) (.mk yk yn ys yl) : Stp) with | .skip => uRun g st s | .cyc => some .cyc | .bnd n y => uRun g st (s ++ [(n, y)]) | .clash => some .clash | .push l => uRun g (l ++ st) s) = some RES) := by
            have h1 := HStep.out
            rw [stpT, if_neg (show ¬ (Tm.mk xk xn xs xl).k = 0 from hx0), if_neg (show ¬ (Tm.mk yk yn ys yl).k = 0 from hy0)] at h1
            exact h1
          have HC := Lib.hid (alike_any (.mk xk xn xs xl) (.mk yk yn ys yl) ⟨xk, xn, xs, xA, xm, xc⟩ ⟨yk, yn, ys, yA, ym, yc⟩ w7 (HTx.out.mono fun _ _ => trivial) (HTy.out.mono fun _ _ => trivial))
          have HW : Hid (UW Vs (xl.zip yl ++ st) s) := HPush.out hx0 hy0
          unfold tvV at HC
          have qc0 := HX.out.cell 0
          have qf0 := HX.out.frozen 0
          have qc1 := HX.out.cell 1
          have qf1 := HX.out.frozen 1
          have qc2 := HX.out.cell 2
          have qf2 := HX.out.frozen 2
          have qc3 := HX.out.cell 3
          have qf3 := HX.out.frozen 3
          have pc0 := HY.out.cell 0
          have pf0 := HY.out.frozen 0
          have pc1 := HY.out.cell 1
          have pf1 := HY.out.frozen 1
          have pc2 := HY.out.cell 2
          have pf2 := HY.out.frozen 2
          have pc3 := HY.out.cell 3
          have pf3 := HY.out.frozen 3
          cases hal : alikeT (.mk xk xn xs xl) (.mk yk yn ys yl) with
          | false =>
            have HRes : Hid (RES = .clash) := by
              have h1 := HSt.out
              rw [stpN, hal] at h1
              exact (Option.some.inj h1).symm
            rw [hal] at HC
            clear hal
            go_wp2_with fail
            refine HC.out.mono ?_
            rintro e w9 ⟨rfl, k9⟩
            go_wp2_with fail
            go_ret2
            exact ⟨HU7.out.keep.trans k9, by rw [HRes.out]; rfl⟩
          | true =>
            have HRes : Hid (uRun g (xl.zip yl ++ st) s = some RES) := by
              have h1 := HSt.out
              rw [stpN, hal] at h1
              exact h1
            rw [hal] at HC
            have hll : xl.length = yl.length := by
              unfold alikeT at hal
              simp only [Bool.and_eq_true, beq_iff_eq] at hal
              exact hal.2
            have h8 : xl.length ≤ 8 := right_len HTa.out.1.rt
            clear hal
            obtain ⟨z1, z2, z3, ex, z4, vx, hvx, hRx, z5⟩ := HTx.out.inv
            obtain ⟨z1', z2', z3', ey, z4', vy, hvy, hRy, z5'⟩ := HTy.out.inv
            clear z1 z2 z3 z4 z1' z2' z3' z4'
            obtain ⟨nx, hnx⟩ : ∃ n, xl.length = n := ⟨_, rfl⟩
            replace ex : nx = xm := (ex.trans hnx).symm
            replace ey : nx = ym := (ey.trans (hll.symm.trans hnx)).symm
            have hny : yl.length = nx := hll.symm.trans hnx
            subst ex
            subst ey
            have HNx := Lib.hid hnx
            have HNy := Lib.hid hny
            have HVx : Hid (Trs w7 (fun b => b < w.heap.size) xl vx) := hvx
            have HVy : Hid (Trs w7 (fun b => b < w.heap.size) yl vy) := hvy
            have HRx : Hid (Rd w7 xA (vx.flatMap tvE)) := hRx
            have HRy : Hid (Rd w7 yA (vy.flatMap tvE)) := hRy
            have h8 : nx ≤ 8 := by omega
            clear hll hnx hny hvx hvy hRx hRy
            go_wp2_with fail
            refine HC.out.mono ?_
            rintro e w9 ⟨rfl, k9⟩
            have HIP : Hid (IP 33 59 30 w w9 xb yb #[.int .i64 xk, .int .i64 xn, .string xs, .slice xA nx xc] #[.int .i64 yk, .int .i64 yn, .string ys, .slice yA nx yc] xl yl vx vy xA yA s ((xl.zip yl).drop nx ++ st) A m c (some ⟨lg, 0, none⟩) k lc ps ws) := by
              have hd : (xl.zip yl).drop nx = [] := List.drop_eq_nil_of_le (by rw [List.length_zip, HNx.out, HNy.out]; omega)
              rw [hd]
              exact IP.keep0 ⟨HU7.out, ⟨HX.out, (HNo.out xb (by simp)).2.1⟩, ⟨HY.out, (HNo.out yb (by simp)).2.1⟩, HVx.out, HVy.out, HRx.out, HRy.out, z5, z5'⟩ k9
            have HK9 := Lib.hid k9
            clear qc0 qf0 qc1 qf1 qc2 qf2 qc3 qf3 pc0 pf0 pc1 pf1 pc2 pf2 pc3 pf3
            have xc3 := HIP.out.bx.1.cell 3
            have b5 : wrap64 ((nx : Int) - 1) = (nx : Int) - 1 := by unfold wrap64; omega
            clear k9 HC z5 z5' HVx HVy HRx HRy HX HY HTx HTy
            go_wp2_with fail
            clear xc3
            go_loopw [7, 13] (fun x7 x13 wi => ∃ (j q : Nat) (z : Int) (LA' : Option Addr) (lc' : Nat) (wz : List (TV × TV)), j ≤ nx ∧ q + j = k + nx ∧ z = (j : Int) - 1 ∧ x13 = .int .i64 z ∧ x7 = .slice LA' q lc' ∧ IP 33 59 30 w wi xb yb #[.int .i64 xk, .int .i64 xn, .string xs, .slice xA nx xc] #[.int .i64 yk, .int .i64 yn, .string ys, .slice yA nx yc] xl yl vx vy xA yA s ((xl.zip yl).drop j ++ st) A m c LA' q lc' ps wz) (fun _ x13 _ => (intOf x13 + 1).toNat)
            case atStart => exact ⟨nx, k, _, some ⟨lg, 0, none⟩, lc, ws, Nat.le_refl _, rfl, rfl, rfl, rfl, HIP.out⟩
            case round =>
              clear HIP b5
              obtain ⟨j, q, z, LA', lc', wz, hj, hq, hz, rfl, rfl, hip⟩ := hrel
              cases j with
              | zero =>
                obtain rfl : z = -1 := by omega
                have HUr : Hid (US 33 59 w wr s (xl.zip yl ++ st) A m c LA' q lc' ps wz) := by have := hip.us; rw [List.drop_zero] at this; exact this
                clear hip hq hj hz
                go_wp2_with fail
                go_roundg g
                case measure => omega
                case rel => exact ⟨s, xl.zip yl ++ st, A, m, c, LA', q, lc', ps, wz, rfl, rfl, HRes.out, HW.out, HUr.out⟩
              | succ j =>
                obtain rfl : z = (j : Int) := by omega
                clear hz
                have HQ := Lib.hid hq
                have HJ := Lib.hid hj
                have hjn : j < nx := by omega
                obtain ⟨ca, hca⟩ := at_of HNx.out hjn
                obtain ⟨cb, hcb⟩ := at_of HNy.out hjn
                obtain ⟨u', bu, ou, _, htu, hxA, hbu, p0, p1, p2, p3⟩ := hip.tx.get hip.rx hca
                obtain ⟨v', bv, ov, _, htv, hyA, hbv, r0, r1, r2, r3⟩ := hip.ty.get hip.ry hcb
                subst hxA
                subst hyA
                have hlow : ∀ b ∈ ownL (.slice LA' q lc'), ¬ b < w.heap.size := fun b hb hlt => by have := (own_lt hip.us.own2 hb).1; omega
                have hbu1 : bu < w.heap.size := hip.sx bu ou rfl (fun e => by rw [e] at hca; simp at hca)
                have hbv1 : bv < w.heap.size := hip.sy bv ov rfl (fun e => by rw [e] at hcb; simp at hcb)
                have HW7 : Hid (∀ W', Keeps wr W' (ownL (.slice LA' q lc')) → (W'.cell? ⟨xb, 3, none⟩ = some (.slice (some ⟨bu, ou, none⟩) nx xc) ∧ W'.cell? ⟨yb, 3, none⟩ = some (.slice (some ⟨bv, ov, none⟩) nx yc) ∧ W'.cell? ⟨bu, ou + j * 4, none⟩ = some (.int .i64 u'.k) ∧ W'.cell? ⟨bu, ou + j * 4 + 1, none⟩ = some (.int .i64 u'.n) ∧ W'.cell? ⟨bu, ou + j * 4 + 2, none⟩ = some (.string u'.s) ∧ W'.cell? ⟨bu, ou + j * 4 + 3, none⟩ = some (.slice u'.A u'.len u'.c) ∧ W'.cell? ⟨bv, ov + j * 4, none⟩ = some (.int .i64 v'.k) ∧ W'.cell? ⟨bv, ov + j * 4 + 1, none⟩ = some (.int .i64 v'.n) ∧ W'.cell? ⟨bv, ov + j * 4 + 2, none⟩ = some (.string v'.s) ∧ W'.cell? ⟨bv, ov + j * 4 + 3, none⟩ = some (.slice v'.A v'.len v'.c))) := fun W' kk =>
                  have kx : ∀ i x, wr.cell? ⟨bu, i, none⟩ = some x → W'.cell? ⟨bu, i, none⟩ = some x := fun i x hx => (kk.cell (p := ⟨bu, i, none⟩) hbu (fun hm => hlow _ hm hbu1)).trans hx
                  have ky : ∀ i x, wr.cell? ⟨bv, i, none⟩ = some x → W'.cell? ⟨bv, i, none⟩ = some x := fun i x hx => (kk.cell (p := ⟨bv, i, none⟩) hbv (fun hm => hlow _ hm hbv1)).trans hx
                  ⟨(hip.bx.1.keep kk hip.bx.2).cell 3, (hip.by_.1.keep kk hip.by_.2).cell 3, kx _ _ p0, kx _ _ p1, kx _ _ p2, kx _ _ p3, ky _ _ r0, ky _ _ r1, ky _ _ r2, ky _ _ r3⟩
                have HIP := Lib.hid hip
                have HTU := Lib.hid htu
                have HTV := Lib.hid htv
                have HCa := Lib.hid hca
                have HCb := Lib.hid hcb
                have b0 : (0 : Int) ≤ (j : Int) := Int.natCast_nonneg _
                have b1 : (j : Int) < (nx : Int) := by omega
                have b2 : wrap64 ((j : Int) - 1) = (j : Int) - 1 := by unfold wrap64; omega
                have hszw := hip.us.keep.size
                clear hq hj hip htu htv hca hcb p0 p1 p2 p3 r0 r1 r2 r3 hlow hbu1 hbv1 hbu hbv
                go_upto_region 20 with fail
                refine wp_region_tx (fun W' => W'.cell? ⟨xb, 3, none⟩ = some (.slice (some ⟨bu, ou, none⟩) nx xc) ∧ W'.cell? ⟨yb, 3, none⟩ = some (.slice (some ⟨bv, ov, none⟩) nx yc) ∧ W'.cell? ⟨bu, ou + j * 4, none⟩ = some (.int .i64 u'.k) ∧ W'.cell? ⟨bu, ou + j * 4 + 1, none⟩ = some (.int .i64 u'.n) ∧ W'.cell? ⟨bu, ou + j * 4 + 2, none⟩ = some (.string u'.s) ∧ W'.cell? ⟨bu, ou + j * 4 + 3, none⟩ = some (.slice u'.A u'.len u'.c) ∧ W'.cell? ⟨bv, ov + j * 4, none⟩ = some (.int .i64 v'.k) ∧ W'.cell? ⟨bv, ov + j * 4 + 1, none⟩ = some (.int .i64 v'.n) ∧ W'.cell? ⟨bv, ov + j * 4 + 2, none⟩ = some (.string v'.s) ∧ W'.cell? ⟨bv, ov + j * 4 + 3, none⟩ = some (.slice v'.A v'.len v'.c)) [(0, true), (1, true), (2, true), (3, true), (4, true), (5, true), (6, true), (7, true), (8, true), (9, true), (10, true), (11, true), (12, false), (13, false), (14, false)] (by kernel_rfl) (by kernel_rfl) (HW7.out _ ((Keeps.refl _ _).drew)) (fun hHeld => ?_)
                (repeat (first | (refine wpTx_take (v := ?_) rfl (by assumption) ?_ (by rfl) ?_; rotate_left; (focus (intro w' hSw; (try dsimp only at hSw); go_simp; (try with_reducible rfl); done)); simp only [Act.put, List.setIfInBounds_toArray, List.set_cons_zero, List.set_cons_succ]) | (refine wpTx_skip rfl (by assumption) (by rfl) ?_; simp only [Act.put, List.setIfInBounds_toArray, List.set_cons_zero, List.set_cons_succ])))
                refine wpTx_go rfl (fun K hK => ?_)
                go_simp
                refine hK.out _ _ ?_ ?_
                · exact HW7.out _ (((Keeps.refl _ []).drew.alloc _).to_ _)
                (clear hHeld; intro hHeld; clear hK K; (try simp only [Act.put, List.setIfInBounds_toArray, List.set_cons_zero, List.set_cons_succ]))
                refine wpTx_go rfl (fun K hK => ?_)
                refine step_app _ el_left (by rfl) _ _ (by rfl) w.heap.size LA' q lc' (wz.reverse.flatMap lvE) (by rfl) (own_keep0 HIP.out.us.own2 ((Keeps.refl _ []).drew.alloc _)) (some ⟨wr.heap.size, 0, none⟩) 1 1 (lvE (v', u')) (by rfl) (Rd.one wr.drew _ (lvE (v', u'))) rfl (by simp) (by simp [lvE, Value.oneCell']) (by have := HQ.out; omega) (by simp; omega) ?_
                intro LA2 lc2 w2 hown hgrow hat
                refine hK.out _ _ ?_ ?_
                · exact HW7.out _ ((((Keeps.refl _ []).drew.alloc _)).rest (Keeps.ofGrown hgrow))
                (clear hHeld; intro hHeld; clear hK K; (try simp only [Act.put, List.setIfInBounds_toArray, List.set_cons_zero, List.set_cons_succ]))
                refine wpTx_last rfl (fun K hK => ?_)
                go_simp
                refine hK.out _ _ (NoPanic.normal ?_); clear hK K; (try simp only [Act.put, List.setIfInBounds_toArray, List.set_cons_zero, List.set_cons_succ])
                have HN := Lib.hid (HIP.out.step ((Keeps.refl _ []).drew.alloc _) HTU.out HTV.out hown hgrow hat)
                clear hown hgrow hat HIP HTU HTV HW7 hszw
                go_wp2_with fail
                go_roundw
                case rel =>
                  refine ⟨j, q + 1, (j : Int) - 1, LA2, lc2, (v', u') :: wz, by omega, by have := HQ.out; omega, rfl, rfl, rfl, ?_⟩
                  rw [zip_drop HCa.out HCb.out]
                  exact HN.out
                case measure => simp [intOf]
end Go.Proofs.Ytjbomjnkjcafcaa

