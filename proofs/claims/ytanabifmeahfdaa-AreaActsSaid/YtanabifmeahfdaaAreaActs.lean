/- The walk of AreaActs. Printed by gen_acts.py. -/
import Derived.Test.YtanabifmeahfdaaAreaActs0
import Derived.Deep.Cut
import Derived.Deep.CutRange
import Derived.Deep.CutBlock
import Derived.Deep.DeepCutAuto
import Derived.Deep.RegionHeld3
import Derived.Deep.LoopGhost
namespace Go.Proofs.Ytanabifmeahfdaa
open Go.RowKit

theorem pushOk_of {l : List Int} {n : Nat} {c : Int} (h : l.length < n) (h2 : right c = true) : pushOk l n c = true := by simp [pushOk, h, h2]
theorem setOk_of {l : List Int} {i c : Int} (h : inside i l.length = true) (h2 : right c = true) : setOk l i c = true := by simp [setOk, h, h2]
theorem ways3 {a c : Bool} {p : Prop} (h : ¬ (a = true ∧ p ∧ c = true)) : a = false ∨ (a = true ∧ ¬ p) ∨ (a = true ∧ p ∧ c = false) := by
  by_cases hp : p <;> cases a <;> cases c <;> simp_all
theorem ways3b {a b c : Bool} (h : ¬ (a = true ∧ b = true ∧ c = true)) : a = false ∨ (a = true ∧ b = false) ∨ (a = true ∧ b = true ∧ c = false) := by
  cases b <;> cases a <;> cases c <;> simp_all
theorem own_some {w : World} {base n c : Nat} {e : TypeId} {A : Option Addr} {xs : List Value} (ho : w.ownsRow base e 1 (.slice A n c) n xs) (hn : 0 < n) : ∃ g, A = some ⟨g, 0, none⟩ ∧ base ≤ g := by
  rcases ho.2 with ⟨_, h0⟩ | ⟨g, cap, cur, he, hb, _⟩
  · omega
  · simp only [Value.slice.injEq] at he
    exact ⟨g, he.1, hb⟩
theorem size_of {a b : World} {S : List Nat} {n : Nat} (h : n ≤ a.heap.size) (k : Keeps a b S) : n ≤ b.heap.size := Nat.le_trans h k.size

set_option maxRecDepth 100000 in
set_option maxHeartbeats 25600000 in
theorem acts_main (room : Int) (A : Option Addr) (m c : Nat) (ops : List Act4) (w : World) (hl : ops.length = m) (_hm : m ≤ 9223372036854775807) (hA : Acts w w.heap.size A ops)
    (U : Int) (hU : IntKind.u64.wrap room = U) (hU0 : 0 ≤ U) (n : Nat) (hn : U % 20 = n) (_hn2 : n < 20) :
    Calls Try.prog 6 #[.int .i64 room, .slice A m c] w fun e w' => e = .returned (.bool true) ∧ Below w.heap.size w w' := by
  have HL := Lib.hid hl
  have HA := Lib.hid hA
  clear hl hA
  go_enter Try.func6, Try.ntmps6
  go_wp2_with fail
  refine (new_yes n _ (by omega)).mono ?_
  rintro e w1 ⟨g, h, rfl, a1, hb1⟩
  go_wp2_with fail
  refine (areaTold_any _).mono ?_
  rintro e w2 ⟨rfl, hb2⟩
  go_wp2_with fail
  go_loopg [10] 100 (fun gk i wr => ∃ k : Nat, k ≤ m ∧ k ≤ 100 ∧ gk = 100 - k ∧ i = .int .i64 k ∧ ∃ l, Ar wr w.heap.size g h l n ∧ RA wr w.heap.size (w2.heap.size + 1) l n ∧ Blk wr w2.heap.size 47 #[.pointer (some ⟨g, 0, none⟩)] ∧ Below w.heap.size w wr)
  case atStart =>
    refine ⟨0, Nat.zero_le _, Nat.zero_le _, rfl, rfl, [], ?_⟩
    have b2 := hb1.trans (hb2.mono hb1.size)
    have a2 : Ar w2 w.heap.size g h [] n := a1.keep (Keeps.of_below hb2 []) (by simp) (by simp)
    refine ⟨a2.keep (S := []) (((Keeps.refl w2 []).alloc _).alloc _) (by simp) (by simp), ⟨⟨none, 0, ?_, World.ownsRow_nil _ _ _ _⟩, ?_, Nat.zero_le _, by omega, by simp⟩, (Blk.new _ _ _).alloc _, (b2.alloc b2.size _).alloc (by rw [World.size_alloc]; have := b2.size; omega) _⟩
    · have := Blk.new (w2.alloc (.cells #[.pointer (some ⟨g, 0, none⟩)] 47)) 51 #[.slice none 0 0, .int .i64 n]
      rwa [World.size_alloc] at this
    · have := b2.size; omega
  case round =>
    obtain ⟨k, hkm, hk100, rfl, rfl, l, ar, ra, hr, hbel⟩ := hrel
    have HAr := Lib.hid ar
    have HRa := Lib.hid ra
    have HR := Lib.hid hr
    have HBel := Lib.hid hbel
    clear ar ra hr hbel
    by_cases hlt : k < m ∧ k < 100
    · obtain ⟨b, off, o, rfl, hob, ho, o1, o2, o3, o4, oa, ob, oc, od⟩ := HA.out k (by rw [HL.out]; exact hlt.1)
      have d1 : decide (k < m) = true := by simp; omega
      have d2 : decide ((k : Int) < 100) = true := by simp; omega
      have p1 := (HBel.out.cell (p := ⟨b, off + k * 4, none⟩) hob).trans o1
      have p2 := (HBel.out.cell (p := ⟨b, off + k * 4 + 1, none⟩) hob).trans o2
      have p3 := (HBel.out.cell (p := ⟨b, off + k * 4 + 2, none⟩) hob).trans o3
      have p4 := (HBel.out.cell (p := ⟨b, off + k * 4 + 3, none⟩) hob).trans o4
      clear ho o1 o2 o3 o4
      obtain ⟨K, hK⟩ : ∃ K, IntKind.u64.wrap o.kind = K := ⟨_, rfl⟩
      have hK0 : 0 ≤ K := by rw [← hK]; simp only [IntKind.wrap, IntKind.bits, IntKind.signed, Bool.false_and, Bool.false_eq_true, if_false]; omega
      obtain ⟨q, hq, hq4⟩ : ∃ q : Nat, K % 4 = q ∧ q < 4 := ⟨(K % 4).toNat, by omega, by omega⟩
      go_upto_region 12 with fail
      go_cut [13] (fun s13 wx => ∃ tt : Bool, s13 = .bool tt ∧ Hid (inside o.at_ l.length = tt) ∧ St w wx g h w2.heap.size (w2.heap.size + 1) wr.heap.size n o l)
      case first =>
        clear p1 p2 p3 p4
        have hsz := HBel.out.size
        have hq1 := HR.out.lt
        have st : ∀ u t, u = #[.int .i64 o.kind, .int .i64 o.at_, .int .u64 o.cell, .bool o.raw] → t = 53 → St w (wr.alloc (.cells u t)) g h w2.heap.size (w2.heap.size + 1) wr.heap.size n o l := by
          rintro u t rfl rfl
          have k0 : Keeps wr (wr.alloc (.cells #[.int .i64 o.kind, .int .i64 o.at_, .int .u64 o.cell, .bool o.raw] 53)) [] := (Keeps.refl wr []).alloc _
          exact ⟨HAr.out.keep k0 (by simp) (by simp), HRa.out.keep0 k0, HR.out.keep k0 (by simp), Blk.new wr _ _, HBel.out.alloc hsz _, by have := hb2.size; have := hb1.size; omega, hsz⟩
        have st := st _ _ rfl rfl
        have HS := Lib.hid st
        obtain ⟨A', cap, hrb, _⟩ := st.ra.blk
        have e0 := hrb.cell 0
        have e1 := st.op.cell 1
        clear st hrb
        generalize hW : wr.alloc (.cells #[.int .i64 o.kind, .int .i64 o.at_, .int .u64 o.cell, .bool o.raw] 53) = W at HS e0 e1 ⊢
        clear hW
        by_cases h0 : 0 ≤ o.at_
        · -- Sub
          as_aux_lemma =>
            have d3 : decide (0 ≤ o.at_) = true := by simpa using h0
            cases h4 : decide (o.at_ < l.length) with
            | true =>
              have h5 : inside o.at_ l.length = true := by simp [inside, d3, h4]
              have H5 := Lib.hid h5
              clear h5
              go_quiet (fail)
              go_wp2_with fail
              go_meet
              exact ⟨_, rfl, H5, HS.out.drewN _⟩
            | false =>
              have h5 : inside o.at_ l.length = false := by simp [inside, d3, h4]
              have H5 := Lib.hid h5
              clear h5
              go_quiet (fail)
              go_wp2_with fail
              go_meet
              exact ⟨_, rfl, H5, HS.out.drewN _⟩
        · -- Sub
          as_aux_lemma =>
            have d3 : decide (0 ≤ o.at_) = false := by simpa using h0
            have h5 : inside o.at_ l.length = false := by simp [inside, d3]
            have H5 := Lib.hid h5
            clear h5
            go_quiet (fail)
            go_wp2_with fail
            go_meet
            exact ⟨_, rfl, H5, HS.out.drewN _⟩
      case rest =>
        obtain ⟨tt, rfl, HTT, st⟩ := hcut
        have HS := Lib.hid st
        have c0 := st.op.cell 0
        clear st
        go_upto_block 2 with fail
        go_cut [] (fun wx => ∃ l', St w wx g h w2.heap.size (w2.heap.size + 1) wr.heap.size n o l')
        case first =>
          have c1 := HS.out.op.cell 1
          have c2 := HS.out.op.cell 2
          have c3 := HS.out.op.cell 3
          have c4 := HS.out.raw.cell 0
          rcases (by omega : q = 0 ∨ q = 1 ∨ q = 2 ∨ q = 3) with rfl | rfl | rfl | rfl
          · -- Push
            as_aux_lemma =>
              have HW : Hid (∀ W', Keeps wc W' [g, h, w2.heap.size + 1] → W'.cell? ⟨wr.heap.size, 1, none⟩ = some (.int .i64 o.at_) ∧ W'.cell? ⟨wr.heap.size, 2, none⟩ = some (.int .u64 o.cell) ∧ W'.cell? ⟨w2.heap.size, 0, none⟩ = some (.pointer (some ⟨g, 0, none⟩))) := fun W' kk => HS.out.seen kk
              obtain ⟨A', cap, hrb, _⟩ := HS.out.ra.blk
              have c5 := hrb.cell 0
              have HB := Lib.hid hrb
              clear hrb
              by_cases hc : o.raw = true ∧ l.length < n ∧ right o.cell = true
              · -- Sub
                as_aux_lemma =>
                  obtain ⟨r1, r2, r3⟩ := hc
                  have HOk : Hid (pushOk l n o.cell = true) := pushOk_of r2 r3
                  have r4 : decide (l.length < n) = true := decide_eq_true r2
                  go_upto_region 16 with (first
                    | (go_at_call 20; refine (right_any o.cell _ (by exact oc) (by exact od)).mono ?_; rintro e w' ⟨rfl, rfl⟩))
                  go_region_with (first
                    | (go_at_call 21; refine (add_all (HS.out.arAt (by exact ⟨rfl, rfl, rfl, Nat.le_refl _, fun _ _ _ => rfl⟩)) o.cell HOk.out (by exact oc) (by exact od)).mono ?_; rintro e wA ⟨rfl, ar2, kA⟩; obtain ⟨x1, x2, x3⟩ := HW.out _ ((Keeps.to3 (by exact ⟨rfl, rfl, rfl, Nat.le_refl _, fun _ _ _ => rfl⟩)).trans (Keeps.toA kA)); have x4 := (HB.out.keep ((Keeps.more (S := []) (T := [g, h]) (by exact ⟨rfl, rfl, rfl, Nat.le_refl _, fun _ _ _ => rfl⟩) (by simp)).trans kA) HS.out.ne.2.2.1).cell 0)
                    | (go_at_call 22; refine (rpush_all (HS.out.raAfter (by exact ⟨rfl, rfl, rfl, Nat.le_refl _, fun _ _ _ => rfl⟩) kA (by exact ⟨rfl, rfl, rfl, Nat.le_refl _, fun _ _ _ => rfl⟩)) o.cell (by exact oc) (by exact od) (by exact Nat.le_trans HS.out.size kA.size)).mono ?_; rintro e wR ⟨rfl, ra2, kR⟩; rw [HOk.out]))
                  all_goals
                    go_wp2_with fail
                    go_meet
                  all_goals exact ⟨_, HS.out.didAR (by exact ⟨rfl, rfl, rfl, Nat.le_refl _, fun _ _ _ => rfl⟩) ar2 kA (by exact ⟨rfl, rfl, rfl, Nat.le_refl _, fun _ _ _ => rfl⟩) ra2 kR (by exact ⟨rfl, rfl, rfl, Nat.le_refl _, fun _ _ _ => rfl⟩)⟩
              · have hb := ways3 hc
                clear hc
                rcases hb with r1 | ⟨r1, r2⟩ | ⟨r1, r2, r3⟩
                · -- Sub
                  as_aux_lemma =>
                    go_upto_region 18 with fail
                    go_region_held3 (fun w' => w'.cell? ⟨wr.heap.size, 1, none⟩ = some (.int .i64 o.at_) ∧ w'.cell? ⟨wr.heap.size, 2, none⟩ = some (.int .u64 o.cell) ∧ w'.cell? ⟨w2.heap.size, 0, none⟩ = some (.pointer (some ⟨g, 0, none⟩))) (first | exact HS.out.seen (Keeps.to3 (by exact ⟨rfl, rfl, rfl, Nat.le_refl _, fun _ _ _ => rfl⟩)) | exact HS.out.seen ((Keeps.to3 (by exact ⟨rfl, rfl, rfl, Nat.le_refl _, fun _ _ _ => rfl⟩)).trans ((Keeps.toA kA).trans ((Keeps.to3 (by exact ⟨rfl, rfl, rfl, Nat.le_refl _, fun _ _ _ => rfl⟩)).trans ((Keeps.toR kR).trans (Keeps.to3 (by exact ⟨rfl, rfl, rfl, Nat.le_refl _, fun _ _ _ => rfl⟩)))))) | exact HS.out.seen ((Keeps.to3 (by exact ⟨rfl, rfl, rfl, Nat.le_refl _, fun _ _ _ => rfl⟩)).trans ((Keeps.toR kR).trans ((Keeps.to3 (by exact ⟨rfl, rfl, rfl, Nat.le_refl _, fun _ _ _ => rfl⟩)).trans ((Keeps.toA kA).trans (Keeps.to3 (by exact ⟨rfl, rfl, rfl, Nat.le_refl _, fun _ _ _ => rfl⟩)))))) | exact HS.out.seen ((Keeps.to3 (by exact ⟨rfl, rfl, rfl, Nat.le_refl _, fun _ _ _ => rfl⟩)).trans ((Keeps.toA kA).trans (Keeps.to3 (by exact ⟨rfl, rfl, rfl, Nat.le_refl _, fun _ _ _ => rfl⟩)))) | exact HS.out.seen ((Keeps.to3 (by exact ⟨rfl, rfl, rfl, Nat.le_refl _, fun _ _ _ => rfl⟩)).trans ((Keeps.toR kR).trans (Keeps.to3 (by exact ⟨rfl, rfl, rfl, Nat.le_refl _, fun _ _ _ => rfl⟩)))))
                      (first | (go_at_call 16; first | (refine (push_all (HS.out.arAfter (by exact ⟨rfl, rfl, rfl, Nat.le_refl _, fun _ _ _ => rfl⟩) kR (by exact ⟨rfl, rfl, rfl, Nat.le_refl _, fun _ _ _ => rfl⟩)) o.cell (by exact oc) (by exact od)).mono ?_; rintro e wA ⟨rfl, ar2, kA⟩) | (refine (push_all (HS.out.arAt (by exact ⟨rfl, rfl, rfl, Nat.le_refl _, fun _ _ _ => rfl⟩)) o.cell (by exact oc) (by exact od)).mono ?_; rintro e wA ⟨rfl, ar2, kA⟩)) | (go_at_call 22; first | (refine (rpush_all (HS.out.raAfter (by exact ⟨rfl, rfl, rfl, Nat.le_refl _, fun _ _ _ => rfl⟩) kA (by exact ⟨rfl, rfl, rfl, Nat.le_refl _, fun _ _ _ => rfl⟩)) o.cell (by exact oc) (by exact od) (by first | exact Nat.le_trans HS.out.size kA.size | exact HS.out.size)).mono ?_; rintro e wR ⟨rfl, ra2, kR⟩) | (refine (rpush_all (HS.out.raAt (by exact ⟨rfl, rfl, rfl, Nat.le_refl _, fun _ _ _ => rfl⟩)) o.cell (by exact oc) (by exact od) (by first | exact Nat.le_trans HS.out.size kA.size | exact HS.out.size)).mono ?_; rintro e wR ⟨rfl, ra2, kR⟩)))
                    all_goals
                      go_wp2_with fail
                      go_meet
                    all_goals first | exact ⟨_, HS.out.didAR (by exact ⟨rfl, rfl, rfl, Nat.le_refl _, fun _ _ _ => rfl⟩) ar2 kA (by exact ⟨rfl, rfl, rfl, Nat.le_refl _, fun _ _ _ => rfl⟩) ra2 kR (by exact ⟨rfl, rfl, rfl, Nat.le_refl _, fun _ _ _ => rfl⟩)⟩ | exact ⟨_, HS.out.didRA (by exact ⟨rfl, rfl, rfl, Nat.le_refl _, fun _ _ _ => rfl⟩) ra2 kR (by exact ⟨rfl, rfl, rfl, Nat.le_refl _, fun _ _ _ => rfl⟩) ar2 kA (by exact ⟨rfl, rfl, rfl, Nat.le_refl _, fun _ _ _ => rfl⟩)⟩
                · -- Sub
                  as_aux_lemma =>
                    have r4 : decide (l.length < n) = false := decide_eq_false r2
                    go_upto_region 18 with fail
                    go_region_held3 (fun w' => w'.cell? ⟨wr.heap.size, 1, none⟩ = some (.int .i64 o.at_) ∧ w'.cell? ⟨wr.heap.size, 2, none⟩ = some (.int .u64 o.cell) ∧ w'.cell? ⟨w2.heap.size, 0, none⟩ = some (.pointer (some ⟨g, 0, none⟩))) (first | exact HS.out.seen (Keeps.to3 (by exact ⟨rfl, rfl, rfl, Nat.le_refl _, fun _ _ _ => rfl⟩)) | exact HS.out.seen ((Keeps.to3 (by exact ⟨rfl, rfl, rfl, Nat.le_refl _, fun _ _ _ => rfl⟩)).trans ((Keeps.toA kA).trans ((Keeps.to3 (by exact ⟨rfl, rfl, rfl, Nat.le_refl _, fun _ _ _ => rfl⟩)).trans ((Keeps.toR kR).trans (Keeps.to3 (by exact ⟨rfl, rfl, rfl, Nat.le_refl _, fun _ _ _ => rfl⟩)))))) | exact HS.out.seen ((Keeps.to3 (by exact ⟨rfl, rfl, rfl, Nat.le_refl _, fun _ _ _ => rfl⟩)).trans ((Keeps.toR kR).trans ((Keeps.to3 (by exact ⟨rfl, rfl, rfl, Nat.le_refl _, fun _ _ _ => rfl⟩)).trans ((Keeps.toA kA).trans (Keeps.to3 (by exact ⟨rfl, rfl, rfl, Nat.le_refl _, fun _ _ _ => rfl⟩)))))) | exact HS.out.seen ((Keeps.to3 (by exact ⟨rfl, rfl, rfl, Nat.le_refl _, fun _ _ _ => rfl⟩)).trans ((Keeps.toA kA).trans (Keeps.to3 (by exact ⟨rfl, rfl, rfl, Nat.le_refl _, fun _ _ _ => rfl⟩)))) | exact HS.out.seen ((Keeps.to3 (by exact ⟨rfl, rfl, rfl, Nat.le_refl _, fun _ _ _ => rfl⟩)).trans ((Keeps.toR kR).trans (Keeps.to3 (by exact ⟨rfl, rfl, rfl, Nat.le_refl _, fun _ _ _ => rfl⟩)))))
                      (first | (go_at_call 16; first | (refine (push_all (HS.out.arAfter (by exact ⟨rfl, rfl, rfl, Nat.le_refl _, fun _ _ _ => rfl⟩) kR (by exact ⟨rfl, rfl, rfl, Nat.le_refl _, fun _ _ _ => rfl⟩)) o.cell (by exact oc) (by exact od)).mono ?_; rintro e wA ⟨rfl, ar2, kA⟩) | (refine (push_all (HS.out.arAt (by exact ⟨rfl, rfl, rfl, Nat.le_refl _, fun _ _ _ => rfl⟩)) o.cell (by exact oc) (by exact od)).mono ?_; rintro e wA ⟨rfl, ar2, kA⟩)) | (go_at_call 22; first | (refine (rpush_all (HS.out.raAfter (by exact ⟨rfl, rfl, rfl, Nat.le_refl _, fun _ _ _ => rfl⟩) kA (by exact ⟨rfl, rfl, rfl, Nat.le_refl _, fun _ _ _ => rfl⟩)) o.cell (by exact oc) (by exact od) (by first | exact Nat.le_trans HS.out.size kA.size | exact HS.out.size)).mono ?_; rintro e wR ⟨rfl, ra2, kR⟩) | (refine (rpush_all (HS.out.raAt (by exact ⟨rfl, rfl, rfl, Nat.le_refl _, fun _ _ _ => rfl⟩)) o.cell (by exact oc) (by exact od) (by first | exact Nat.le_trans HS.out.size kA.size | exact HS.out.size)).mono ?_; rintro e wR ⟨rfl, ra2, kR⟩)))
                    all_goals
                      go_wp2_with fail
                      go_meet
                    all_goals first | exact ⟨_, HS.out.didAR (by exact ⟨rfl, rfl, rfl, Nat.le_refl _, fun _ _ _ => rfl⟩) ar2 kA (by exact ⟨rfl, rfl, rfl, Nat.le_refl _, fun _ _ _ => rfl⟩) ra2 kR (by exact ⟨rfl, rfl, rfl, Nat.le_refl _, fun _ _ _ => rfl⟩)⟩ | exact ⟨_, HS.out.didRA (by exact ⟨rfl, rfl, rfl, Nat.le_refl _, fun _ _ _ => rfl⟩) ra2 kR (by exact ⟨rfl, rfl, rfl, Nat.le_refl _, fun _ _ _ => rfl⟩) ar2 kA (by exact ⟨rfl, rfl, rfl, Nat.le_refl _, fun _ _ _ => rfl⟩)⟩
                · -- Sub
                  as_aux_lemma =>
                    have r4 : decide (l.length < n) = true := decide_eq_true r2
                    go_upto_region 18 with (first
                      | (go_at_call 20; refine (right_any o.cell _ (by exact oc) (by exact od)).mono ?_; rintro e w' ⟨rfl, rfl⟩))
                    go_region_held3 (fun w' => w'.cell? ⟨wr.heap.size, 1, none⟩ = some (.int .i64 o.at_) ∧ w'.cell? ⟨wr.heap.size, 2, none⟩ = some (.int .u64 o.cell) ∧ w'.cell? ⟨w2.heap.size, 0, none⟩ = some (.pointer (some ⟨g, 0, none⟩))) (first | exact HS.out.seen (Keeps.to3 (by exact ⟨rfl, rfl, rfl, Nat.le_refl _, fun _ _ _ => rfl⟩)) | exact HS.out.seen ((Keeps.to3 (by exact ⟨rfl, rfl, rfl, Nat.le_refl _, fun _ _ _ => rfl⟩)).trans ((Keeps.toA kA).trans ((Keeps.to3 (by exact ⟨rfl, rfl, rfl, Nat.le_refl _, fun _ _ _ => rfl⟩)).trans ((Keeps.toR kR).trans (Keeps.to3 (by exact ⟨rfl, rfl, rfl, Nat.le_refl _, fun _ _ _ => rfl⟩)))))) | exact HS.out.seen ((Keeps.to3 (by exact ⟨rfl, rfl, rfl, Nat.le_refl _, fun _ _ _ => rfl⟩)).trans ((Keeps.toR kR).trans ((Keeps.to3 (by exact ⟨rfl, rfl, rfl, Nat.le_refl _, fun _ _ _ => rfl⟩)).trans ((Keeps.toA kA).trans (Keeps.to3 (by exact ⟨rfl, rfl, rfl, Nat.le_refl _, fun _ _ _ => rfl⟩)))))) | exact HS.out.seen ((Keeps.to3 (by exact ⟨rfl, rfl, rfl, Nat.le_refl _, fun _ _ _ => rfl⟩)).trans ((Keeps.toA kA).trans (Keeps.to3 (by exact ⟨rfl, rfl, rfl, Nat.le_refl _, fun _ _ _ => rfl⟩)))) | exact HS.out.seen ((Keeps.to3 (by exact ⟨rfl, rfl, rfl, Nat.le_refl _, fun _ _ _ => rfl⟩)).trans ((Keeps.toR kR).trans (Keeps.to3 (by exact ⟨rfl, rfl, rfl, Nat.le_refl _, fun _ _ _ => rfl⟩)))))
                      (first | (go_at_call 16; first | (refine (push_all (HS.out.arAfter (by exact ⟨rfl, rfl, rfl, Nat.le_refl _, fun _ _ _ => rfl⟩) kR (by exact ⟨rfl, rfl, rfl, Nat.le_refl _, fun _ _ _ => rfl⟩)) o.cell (by exact oc) (by exact od)).mono ?_; rintro e wA ⟨rfl, ar2, kA⟩) | (refine (push_all (HS.out.arAt (by exact ⟨rfl, rfl, rfl, Nat.le_refl _, fun _ _ _ => rfl⟩)) o.cell (by exact oc) (by exact od)).mono ?_; rintro e wA ⟨rfl, ar2, kA⟩)) | (go_at_call 22; first | (refine (rpush_all (HS.out.raAfter (by exact ⟨rfl, rfl, rfl, Nat.le_refl _, fun _ _ _ => rfl⟩) kA (by exact ⟨rfl, rfl, rfl, Nat.le_refl _, fun _ _ _ => rfl⟩)) o.cell (by exact oc) (by exact od) (by first | exact Nat.le_trans HS.out.size kA.size | exact HS.out.size)).mono ?_; rintro e wR ⟨rfl, ra2, kR⟩) | (refine (rpush_all (HS.out.raAt (by exact ⟨rfl, rfl, rfl, Nat.le_refl _, fun _ _ _ => rfl⟩)) o.cell (by exact oc) (by exact od) (by first | exact Nat.le_trans HS.out.size kA.size | exact HS.out.size)).mono ?_; rintro e wR ⟨rfl, ra2, kR⟩)))
                    all_goals
                      go_wp2_with fail
                      go_meet
                    all_goals first | exact ⟨_, HS.out.didAR (by exact ⟨rfl, rfl, rfl, Nat.le_refl _, fun _ _ _ => rfl⟩) ar2 kA (by exact ⟨rfl, rfl, rfl, Nat.le_refl _, fun _ _ _ => rfl⟩) ra2 kR (by exact ⟨rfl, rfl, rfl, Nat.le_refl _, fun _ _ _ => rfl⟩)⟩ | exact ⟨_, HS.out.didRA (by exact ⟨rfl, rfl, rfl, Nat.le_refl _, fun _ _ _ => rfl⟩) ra2 kR (by exact ⟨rfl, rfl, rfl, Nat.le_refl _, fun _ _ _ => rfl⟩) ar2 kA (by exact ⟨rfl, rfl, rfl, Nat.le_refl _, fun _ _ _ => rfl⟩)⟩
          · -- Get
            as_aux_lemma =>
              have HW : Hid (∀ W', Keeps wc W' [g, h, w2.heap.size + 1] → W'.cell? ⟨wr.heap.size, 1, none⟩ = some (.int .i64 o.at_) ∧ W'.cell? ⟨wr.heap.size, 2, none⟩ = some (.int .u64 o.cell) ∧ W'.cell? ⟨w2.heap.size, 0, none⟩ = some (.pointer (some ⟨g, 0, none⟩))) := fun W' kk => HS.out.seen kk
              cases tt with
              | true =>
                go_wp2_with (first
                  | (go_at_call 12; refine (get_all HS.out.ar o.at_).mono ?_; rintro e w' ⟨rfl, rfl⟩)
                  | (go_at_call 23; refine (rget_all HS.out.ra o.at_).mono ?_; rintro e w' ⟨rfl, rfl⟩)
                  | (go_at_call 24; refine (at_all HS.out.ar o.at_ HTT.out).mono ?_; rintro e wA ⟨rfl, kA⟩))
                go_meet
                exact ⟨_, HS.out.keep0 kA⟩
              | false =>
                go_wp2_with (first
                  | (go_at_call 12; refine (get_all HS.out.ar o.at_).mono ?_; rintro e w' ⟨rfl, rfl⟩)
                  | (go_at_call 23; refine (rget_all HS.out.ra o.at_).mono ?_; rintro e w' ⟨rfl, rfl⟩))
                go_meet
                exact ⟨_, HS.out⟩
          · -- Set
            as_aux_lemma =>
              have HW : Hid (∀ W', Keeps wc W' [g, h, w2.heap.size + 1] → W'.cell? ⟨wr.heap.size, 1, none⟩ = some (.int .i64 o.at_) ∧ W'.cell? ⟨wr.heap.size, 2, none⟩ = some (.int .u64 o.cell) ∧ W'.cell? ⟨w2.heap.size, 0, none⟩ = some (.pointer (some ⟨g, 0, none⟩))) := fun W' kk => HS.out.seen kk
              by_cases hc : o.raw = true ∧ tt = true ∧ right o.cell = true
              · -- Sub
                as_aux_lemma =>
                  obtain ⟨r1, rfl, r3⟩ := hc
                  have HOk : Hid (setOk l o.at_ o.cell = true) := setOk_of HTT.out r3
                  go_wp2_with (first
                    | (go_at_call 20; refine (right_any o.cell _ (by exact oc) (by exact od)).mono ?_; rintro e w' ⟨rfl, rfl⟩)
                    | (go_at_call 25; refine (put_all HS.out.ar o.at_ o.cell HOk.out (by exact oc) (by exact od)).mono ?_; rintro e wA ⟨rfl, ar2, kA⟩; obtain ⟨x1, x2, x3⟩ := HW.out _ (Keeps.toA kA))
                    | (go_at_call 26; refine (rset_all (HS.out.raAfter (Keeps.refl _ _) kA (Keeps.refl _ _)) o.at_ o.cell (by exact oc) (by exact od) (by exact Nat.le_trans HS.out.size kA.size)).mono ?_; rintro e wR ⟨rfl, ra2, kR⟩))
                  go_meet
                  exact ⟨_, HS.out.didAR (Keeps.refl _ _) ar2 kA (Keeps.refl _ _) ra2 kR (Keeps.refl _ _)⟩
              · have hb := ways3b hc
                clear hc
                rcases hb with r1 | ⟨r1, rfl⟩ | ⟨r1, rfl, r3⟩
                · -- Sub
                  as_aux_lemma =>
                    go_upto_region 29 with (first
                     | (go_at_call 20; refine (right_any o.cell _ (by exact oc) (by exact od)).mono ?_; rintro e w' ⟨rfl, rfl⟩))
                    go_region_held3 (fun w' => w'.cell? ⟨wr.heap.size, 1, none⟩ = some (.int .i64 o.at_) ∧ w'.cell? ⟨wr.heap.size, 2, none⟩ = some (.int .u64 o.cell) ∧ w'.cell? ⟨w2.heap.size, 0, none⟩ = some (.pointer (some ⟨g, 0, none⟩))) (first | exact HS.out.seen (Keeps.to3 (by exact ⟨rfl, rfl, rfl, Nat.le_refl _, fun _ _ _ => rfl⟩)) | exact HS.out.seen ((Keeps.to3 (by exact ⟨rfl, rfl, rfl, Nat.le_refl _, fun _ _ _ => rfl⟩)).trans ((Keeps.toA kA).trans ((Keeps.to3 (by exact ⟨rfl, rfl, rfl, Nat.le_refl _, fun _ _ _ => rfl⟩)).trans ((Keeps.toR kR).trans (Keeps.to3 (by exact ⟨rfl, rfl, rfl, Nat.le_refl _, fun _ _ _ => rfl⟩)))))) | exact HS.out.seen ((Keeps.to3 (by exact ⟨rfl, rfl, rfl, Nat.le_refl _, fun _ _ _ => rfl⟩)).trans ((Keeps.toR kR).trans ((Keeps.to3 (by exact ⟨rfl, rfl, rfl, Nat.le_refl _, fun _ _ _ => rfl⟩)).trans ((Keeps.toA kA).trans (Keeps.to3 (by exact ⟨rfl, rfl, rfl, Nat.le_refl _, fun _ _ _ => rfl⟩)))))) | exact HS.out.seen ((Keeps.to3 (by exact ⟨rfl, rfl, rfl, Nat.le_refl _, fun _ _ _ => rfl⟩)).trans ((Keeps.toA kA).trans (Keeps.to3 (by exact ⟨rfl, rfl, rfl, Nat.le_refl _, fun _ _ _ => rfl⟩)))) | exact HS.out.seen ((Keeps.to3 (by exact ⟨rfl, rfl, rfl, Nat.le_refl _, fun _ _ _ => rfl⟩)).trans ((Keeps.toR kR).trans (Keeps.to3 (by exact ⟨rfl, rfl, rfl, Nat.le_refl _, fun _ _ _ => rfl⟩)))))
                     (first | (go_at_call 17; first | (refine (set_all (HS.out.arAfter (by exact ⟨rfl, rfl, rfl, Nat.le_refl _, fun _ _ _ => rfl⟩) kR (by exact ⟨rfl, rfl, rfl, Nat.le_refl _, fun _ _ _ => rfl⟩)) o.at_ o.cell (by exact oc) (by exact od)).mono ?_; rintro e wA ⟨rfl, ar2, kA⟩) | (refine (set_all (HS.out.arAt (by exact ⟨rfl, rfl, rfl, Nat.le_refl _, fun _ _ _ => rfl⟩)) o.at_ o.cell (by exact oc) (by exact od)).mono ?_; rintro e wA ⟨rfl, ar2, kA⟩)) | (go_at_call 26; first | (refine (rset_all (HS.out.raAfter (by exact ⟨rfl, rfl, rfl, Nat.le_refl _, fun _ _ _ => rfl⟩) kA (by exact ⟨rfl, rfl, rfl, Nat.le_refl _, fun _ _ _ => rfl⟩)) o.at_ o.cell (by exact oc) (by exact od) (by first | exact Nat.le_trans HS.out.size kA.size | exact HS.out.size)).mono ?_; rintro e wR ⟨rfl, ra2, kR⟩) | (refine (rset_all (HS.out.raAt (by exact ⟨rfl, rfl, rfl, Nat.le_refl _, fun _ _ _ => rfl⟩)) o.at_ o.cell (by exact oc) (by exact od) (by first | exact Nat.le_trans HS.out.size kA.size | exact HS.out.size)).mono ?_; rintro e wR ⟨rfl, ra2, kR⟩)))
                    all_goals
                      go_wp2_with fail
                      go_meet
                    all_goals first | exact ⟨_, HS.out.didAR (by exact ⟨rfl, rfl, rfl, Nat.le_refl _, fun _ _ _ => rfl⟩) ar2 kA (by exact ⟨rfl, rfl, rfl, Nat.le_refl _, fun _ _ _ => rfl⟩) ra2 kR (by exact ⟨rfl, rfl, rfl, Nat.le_refl _, fun _ _ _ => rfl⟩)⟩ | exact ⟨_, HS.out.didRA (by exact ⟨rfl, rfl, rfl, Nat.le_refl _, fun _ _ _ => rfl⟩) ra2 kR (by exact ⟨rfl, rfl, rfl, Nat.le_refl _, fun _ _ _ => rfl⟩) ar2 kA (by exact ⟨rfl, rfl, rfl, Nat.le_refl _, fun _ _ _ => rfl⟩)⟩
                · -- Sub
                  as_aux_lemma =>
                    go_upto_region 29 with (first
                     | (go_at_call 20; refine (right_any o.cell _ (by exact oc) (by exact od)).mono ?_; rintro e w' ⟨rfl, rfl⟩))
                    go_region_held3 (fun w' => w'.cell? ⟨wr.heap.size, 1, none⟩ = some (.int .i64 o.at_) ∧ w'.cell? ⟨wr.heap.size, 2, none⟩ = some (.int .u64 o.cell) ∧ w'.cell? ⟨w2.heap.size, 0, none⟩ = some (.pointer (some ⟨g, 0, none⟩))) (first | exact HS.out.seen (Keeps.to3 (by exact ⟨rfl, rfl, rfl, Nat.le_refl _, fun _ _ _ => rfl⟩)) | exact HS.out.seen ((Keeps.to3 (by exact ⟨rfl, rfl, rfl, Nat.le_refl _, fun _ _ _ => rfl⟩)).trans ((Keeps.toA kA).trans ((Keeps.to3 (by exact ⟨rfl, rfl, rfl, Nat.le_refl _, fun _ _ _ => rfl⟩)).trans ((Keeps.toR kR).trans (Keeps.to3 (by exact ⟨rfl, rfl, rfl, Nat.le_refl _, fun _ _ _ => rfl⟩)))))) | exact HS.out.seen ((Keeps.to3 (by exact ⟨rfl, rfl, rfl, Nat.le_refl _, fun _ _ _ => rfl⟩)).trans ((Keeps.toR kR).trans ((Keeps.to3 (by exact ⟨rfl, rfl, rfl, Nat.le_refl _, fun _ _ _ => rfl⟩)).trans ((Keeps.toA kA).trans (Keeps.to3 (by exact ⟨rfl, rfl, rfl, Nat.le_refl _, fun _ _ _ => rfl⟩)))))) | exact HS.out.seen ((Keeps.to3 (by exact ⟨rfl, rfl, rfl, Nat.le_refl _, fun _ _ _ => rfl⟩)).trans ((Keeps.toA kA).trans (Keeps.to3 (by exact ⟨rfl, rfl, rfl, Nat.le_refl _, fun _ _ _ => rfl⟩)))) | exact HS.out.seen ((Keeps.to3 (by exact ⟨rfl, rfl, rfl, Nat.le_refl _, fun _ _ _ => rfl⟩)).trans ((Keeps.toR kR).trans (Keeps.to3 (by exact ⟨rfl, rfl, rfl, Nat.le_refl _, fun _ _ _ => rfl⟩)))))
                     (first | (go_at_call 17; first | (refine (set_all (HS.out.arAfter (by exact ⟨rfl, rfl, rfl, Nat.le_refl _, fun _ _ _ => rfl⟩) kR (by exact ⟨rfl, rfl, rfl, Nat.le_refl _, fun _ _ _ => rfl⟩)) o.at_ o.cell (by exact oc) (by exact od)).mono ?_; rintro e wA ⟨rfl, ar2, kA⟩) | (refine (set_all (HS.out.arAt (by exact ⟨rfl, rfl, rfl, Nat.le_refl _, fun _ _ _ => rfl⟩)) o.at_ o.cell (by exact oc) (by exact od)).mono ?_; rintro e wA ⟨rfl, ar2, kA⟩)) | (go_at_call 26; first | (refine (rset_all (HS.out.raAfter (by exact ⟨rfl, rfl, rfl, Nat.le_refl _, fun _ _ _ => rfl⟩) kA (by exact ⟨rfl, rfl, rfl, Nat.le_refl _, fun _ _ _ => rfl⟩)) o.at_ o.cell (by exact oc) (by exact od) (by first | exact Nat.le_trans HS.out.size kA.size | exact HS.out.size)).mono ?_; rintro e wR ⟨rfl, ra2, kR⟩) | (refine (rset_all (HS.out.raAt (by exact ⟨rfl, rfl, rfl, Nat.le_refl _, fun _ _ _ => rfl⟩)) o.at_ o.cell (by exact oc) (by exact od) (by first | exact Nat.le_trans HS.out.size kA.size | exact HS.out.size)).mono ?_; rintro e wR ⟨rfl, ra2, kR⟩)))
                    all_goals
                      go_wp2_with fail
                      go_meet
                    all_goals first | exact ⟨_, HS.out.didAR (by exact ⟨rfl, rfl, rfl, Nat.le_refl _, fun _ _ _ => rfl⟩) ar2 kA (by exact ⟨rfl, rfl, rfl, Nat.le_refl _, fun _ _ _ => rfl⟩) ra2 kR (by exact ⟨rfl, rfl, rfl, Nat.le_refl _, fun _ _ _ => rfl⟩)⟩ | exact ⟨_, HS.out.didRA (by exact ⟨rfl, rfl, rfl, Nat.le_refl _, fun _ _ _ => rfl⟩) ra2 kR (by exact ⟨rfl, rfl, rfl, Nat.le_refl _, fun _ _ _ => rfl⟩) ar2 kA (by exact ⟨rfl, rfl, rfl, Nat.le_refl _, fun _ _ _ => rfl⟩)⟩
                · -- Sub
                  as_aux_lemma =>
                    go_upto_region 29 with (first
                     | (go_at_call 20; refine (right_any o.cell _ (by exact oc) (by exact od)).mono ?_; rintro e w' ⟨rfl, rfl⟩))
                    go_region_held3 (fun w' => w'.cell? ⟨wr.heap.size, 1, none⟩ = some (.int .i64 o.at_) ∧ w'.cell? ⟨wr.heap.size, 2, none⟩ = some (.int .u64 o.cell) ∧ w'.cell? ⟨w2.heap.size, 0, none⟩ = some (.pointer (some ⟨g, 0, none⟩))) (first | exact HS.out.seen (Keeps.to3 (by exact ⟨rfl, rfl, rfl, Nat.le_refl _, fun _ _ _ => rfl⟩)) | exact HS.out.seen ((Keeps.to3 (by exact ⟨rfl, rfl, rfl, Nat.le_refl _, fun _ _ _ => rfl⟩)).trans ((Keeps.toA kA).trans ((Keeps.to3 (by exact ⟨rfl, rfl, rfl, Nat.le_refl _, fun _ _ _ => rfl⟩)).trans ((Keeps.toR kR).trans (Keeps.to3 (by exact ⟨rfl, rfl, rfl, Nat.le_refl _, fun _ _ _ => rfl⟩)))))) | exact HS.out.seen ((Keeps.to3 (by exact ⟨rfl, rfl, rfl, Nat.le_refl _, fun _ _ _ => rfl⟩)).trans ((Keeps.toR kR).trans ((Keeps.to3 (by exact ⟨rfl, rfl, rfl, Nat.le_refl _, fun _ _ _ => rfl⟩)).trans ((Keeps.toA kA).trans (Keeps.to3 (by exact ⟨rfl, rfl, rfl, Nat.le_refl _, fun _ _ _ => rfl⟩)))))) | exact HS.out.seen ((Keeps.to3 (by exact ⟨rfl, rfl, rfl, Nat.le_refl _, fun _ _ _ => rfl⟩)).trans ((Keeps.toA kA).trans (Keeps.to3 (by exact ⟨rfl, rfl, rfl, Nat.le_refl _, fun _ _ _ => rfl⟩)))) | exact HS.out.seen ((Keeps.to3 (by exact ⟨rfl, rfl, rfl, Nat.le_refl _, fun _ _ _ => rfl⟩)).trans ((Keeps.toR kR).trans (Keeps.to3 (by exact ⟨rfl, rfl, rfl, Nat.le_refl _, fun _ _ _ => rfl⟩)))))
                     (first | (go_at_call 17; first | (refine (set_all (HS.out.arAfter (by exact ⟨rfl, rfl, rfl, Nat.le_refl _, fun _ _ _ => rfl⟩) kR (by exact ⟨rfl, rfl, rfl, Nat.le_refl _, fun _ _ _ => rfl⟩)) o.at_ o.cell (by exact oc) (by exact od)).mono ?_; rintro e wA ⟨rfl, ar2, kA⟩) | (refine (set_all (HS.out.arAt (by exact ⟨rfl, rfl, rfl, Nat.le_refl _, fun _ _ _ => rfl⟩)) o.at_ o.cell (by exact oc) (by exact od)).mono ?_; rintro e wA ⟨rfl, ar2, kA⟩)) | (go_at_call 26; first | (refine (rset_all (HS.out.raAfter (by exact ⟨rfl, rfl, rfl, Nat.le_refl _, fun _ _ _ => rfl⟩) kA (by exact ⟨rfl, rfl, rfl, Nat.le_refl _, fun _ _ _ => rfl⟩)) o.at_ o.cell (by exact oc) (by exact od) (by first | exact Nat.le_trans HS.out.size kA.size | exact HS.out.size)).mono ?_; rintro e wR ⟨rfl, ra2, kR⟩) | (refine (rset_all (HS.out.raAt (by exact ⟨rfl, rfl, rfl, Nat.le_refl _, fun _ _ _ => rfl⟩)) o.at_ o.cell (by exact oc) (by exact od) (by first | exact Nat.le_trans HS.out.size kA.size | exact HS.out.size)).mono ?_; rintro e wR ⟨rfl, ra2, kR⟩)))
                    all_goals
                      go_wp2_with fail
                      go_meet
                    all_goals first | exact ⟨_, HS.out.didAR (by exact ⟨rfl, rfl, rfl, Nat.le_refl _, fun _ _ _ => rfl⟩) ar2 kA (by exact ⟨rfl, rfl, rfl, Nat.le_refl _, fun _ _ _ => rfl⟩) ra2 kR (by exact ⟨rfl, rfl, rfl, Nat.le_refl _, fun _ _ _ => rfl⟩)⟩ | exact ⟨_, HS.out.didRA (by exact ⟨rfl, rfl, rfl, Nat.le_refl _, fun _ _ _ => rfl⟩) ra2 kR (by exact ⟨rfl, rfl, rfl, Nat.le_refl _, fun _ _ _ => rfl⟩) ar2 kA (by exact ⟨rfl, rfl, rfl, Nat.le_refl _, fun _ _ _ => rfl⟩)⟩
          · -- Cut
            as_aux_lemma =>
              go_wp2_with fail
              have SE := HS.out.seen (Keeps.refl _ _)
              go_region_held3 (fun w' => w'.cell? ⟨wr.heap.size, 1, none⟩ = some (.int .i64 o.at_) ∧ w'.cell? ⟨wr.heap.size, 2, none⟩ = some (.int .u64 o.cell) ∧ w'.cell? ⟨w2.heap.size, 0, none⟩ = some (.pointer (some ⟨g, 0, none⟩))) (first | exact HS.out.seen (Keeps.to3 (by exact ⟨rfl, rfl, rfl, Nat.le_refl _, fun _ _ _ => rfl⟩)) | exact HS.out.seen ((Keeps.to3 (by exact ⟨rfl, rfl, rfl, Nat.le_refl _, fun _ _ _ => rfl⟩)).trans ((Keeps.toA kA).trans ((Keeps.to3 (by exact ⟨rfl, rfl, rfl, Nat.le_refl _, fun _ _ _ => rfl⟩)).trans ((Keeps.toR kR).trans (Keeps.to3 (by exact ⟨rfl, rfl, rfl, Nat.le_refl _, fun _ _ _ => rfl⟩)))))) | exact HS.out.seen ((Keeps.to3 (by exact ⟨rfl, rfl, rfl, Nat.le_refl _, fun _ _ _ => rfl⟩)).trans ((Keeps.toR kR).trans ((Keeps.to3 (by exact ⟨rfl, rfl, rfl, Nat.le_refl _, fun _ _ _ => rfl⟩)).trans ((Keeps.toA kA).trans (Keeps.to3 (by exact ⟨rfl, rfl, rfl, Nat.le_refl _, fun _ _ _ => rfl⟩)))))) | exact HS.out.seen ((Keeps.to3 (by exact ⟨rfl, rfl, rfl, Nat.le_refl _, fun _ _ _ => rfl⟩)).trans ((Keeps.toA kA).trans (Keeps.to3 (by exact ⟨rfl, rfl, rfl, Nat.le_refl _, fun _ _ _ => rfl⟩)))) | exact HS.out.seen ((Keeps.to3 (by exact ⟨rfl, rfl, rfl, Nat.le_refl _, fun _ _ _ => rfl⟩)).trans ((Keeps.toR kR).trans (Keeps.to3 (by exact ⟨rfl, rfl, rfl, Nat.le_refl _, fun _ _ _ => rfl⟩)))))
                (first | (go_at_call 18; first | (refine (cut_all (HS.out.arAfter (by exact ⟨rfl, rfl, rfl, Nat.le_refl _, fun _ _ _ => rfl⟩) kR (by exact ⟨rfl, rfl, rfl, Nat.le_refl _, fun _ _ _ => rfl⟩)) o.at_).mono ?_; rintro e wA ⟨rfl, ar2, kA⟩) | (refine (cut_all (HS.out.arAt (by exact ⟨rfl, rfl, rfl, Nat.le_refl _, fun _ _ _ => rfl⟩)) o.at_).mono ?_; rintro e wA ⟨rfl, ar2, kA⟩)) | (go_at_call 27; first | (refine (rcut_all (HS.out.raAfter (by exact ⟨rfl, rfl, rfl, Nat.le_refl _, fun _ _ _ => rfl⟩) kA (by exact ⟨rfl, rfl, rfl, Nat.le_refl _, fun _ _ _ => rfl⟩)) o.at_).mono ?_; rintro e wR ⟨rfl, ra2, kR⟩) | (refine (rcut_all (HS.out.raAt (by exact ⟨rfl, rfl, rfl, Nat.le_refl _, fun _ _ _ => rfl⟩)) o.at_).mono ?_; rintro e wR ⟨rfl, ra2, kR⟩)))
              all_goals
                go_wp2_with fail
                go_meet
              all_goals first | exact ⟨_, HS.out.didAR (by exact ⟨rfl, rfl, rfl, Nat.le_refl _, fun _ _ _ => rfl⟩) ar2 kA (by exact ⟨rfl, rfl, rfl, Nat.le_refl _, fun _ _ _ => rfl⟩) ra2 kR (by exact ⟨rfl, rfl, rfl, Nat.le_refl _, fun _ _ _ => rfl⟩)⟩ | exact ⟨_, HS.out.didRA (by exact ⟨rfl, rfl, rfl, Nat.le_refl _, fun _ _ _ => rfl⟩) ra2 kR (by exact ⟨rfl, rfl, rfl, Nat.le_refl _, fun _ _ _ => rfl⟩) ar2 kA (by exact ⟨rfl, rfl, rfl, Nat.le_refl _, fun _ _ _ => rfl⟩)⟩
        case rest =>
          clear HS c0 HTT
          obtain ⟨l', st⟩ := hcut
          have HT := Lib.hid st
          clear st
          go_upto_region 35 with (first
            | (go_at_call 19; refine (cells_any HT.out.ar).mono ?_; rintro e w3 ⟨A3, c3, rfl, own3, hb3⟩; have HO3 := Lib.hid own3; have HK3 := Lib.hid (Keeps.of_below hb3 []); clear own3 hb3))
          have HT3 := Lib.hid (HT.out.keep0 HK3.out)
          obtain ⟨A', cap, hrb, hro⟩ := HT3.out.ra.blk
          have c5 := hrb.cell 0
          have c6 := HT3.out.raw.cell 0
          have HV : Hid (∀ W', Keeps w3 W' [] → W'.cell? ⟨w2.heap.size + 1, 0, none⟩ = some (.slice A' l'.length cap) ∧ W'.cell? ⟨w2.heap.size, 0, none⟩ = some (.pointer (some ⟨g, 0, none⟩)) ∧ Keeps w3 W' []) := fun W' kk => ⟨(HT3.out.keep0 kk).ra.cellIs kk hrb, (HT3.out.keep0 kk).raw.cell 0, kk⟩
          have N3 := Lib.hid (Row.of_own HO3.out).toNums
          have NR := Lib.hid (Row.of_own hro).toNums
          have hfl := HT3.out.ar.fits
          have hw : IntKind.i64.wrap ((n : Int) - l'.length) = (n : Int) - l'.length := IntWalk.i64_in _ (by omega)
          clear hrb hro
          go_region_held3 (fun w' => w'.cell? ⟨w2.heap.size + 1, 0, none⟩ = some (.slice A' l'.length cap) ∧ w'.cell? ⟨w2.heap.size, 0, none⟩ = some (.pointer (some ⟨g, 0, none⟩)) ∧ Keeps w3 w' []) (first | assumption | exact HV.out _ (by exact ⟨rfl, rfl, rfl, Nat.le_refl _, fun _ _ _ => rfl⟩) | exact HV.out _ (Keeps.trans (by assumption : _ ∧ _ ∧ Keeps w3 _ []).2.2 kL) | exact HV.out _ (Keeps.drewN (by assumption : _ ∧ _ ∧ Keeps w3 _ []).2.2 _) | exact HV.out _ (Keeps.drew (by assumption : _ ∧ _ ∧ Keeps w3 _ []).2.2))
            (first
            | (go_at_call 15; refine (top_any (HT3.out.arAt (by assumption : _ ∧ _ ∧ Keeps w3 _ []).2.2)).mono ?_; rintro e w' ⟨rfl, rfl⟩)
            | (go_at_call 14; refine (free_any (HT3.out.arAt (by assumption : _ ∧ _ ∧ Keeps w3 _ []).2.2)).mono ?_; rintro e w' ⟨rfl, rfl⟩)
            | (go_at_call 29; refine (lawCells_any A3 _ _ l' w3.heap.size _ rfl (by omega) (N3.out.at_ (by assumption : _ ∧ _ ∧ Keeps w3 _ []).2.2) (by exact ((by assumption : _ ∧ _ ∧ Keeps w3 _ []).2.2 : Keeps w3 _ []).size)).mono ?_; rintro e wL ⟨AL, cL, rfl, ownL, hbL⟩; have HL1 := Lib.hid ownL; have kL := Keeps.of_below hbL []; clear ownL hbL)
            | (go_at_call 28; refine (same_eq AL _ _ _ _ l' _ _ _ rfl (by omega) ((Row.of_own HL1.out).toNums) (NR.out.at_ (by assumption : _ ∧ _ ∧ Keeps w3 _ []).2.2)).mono ?_; rintro e wS ⟨rfl, qS, rfl⟩))
          have kE := (by assumption : _ ∧ _ ∧ Keeps w3 (wL.drewN qS) []).2.2
          have HE := Lib.hid kE
          clear kE c5 c6
          by_cases hz : l'.length = 0
          · -- Sub
            as_aux_lemma =>
              have z1 : decide (0 < l'.length) = false := decide_eq_false (by omega)
              have z2 : decide ((0 : Int) < (l'.length : Int)) = false := decide_eq_false (by omega)
              clear hw
              go_wp2_with fail
              go_roundg (100 - (k + 1))
              case measure => omega
              case rel =>
                have sF := HT3.out.keep0 HE.out
                exact ⟨k + 1, by omega, by omega, rfl, by go_num, l', sF.ar, sF.ra, sF.raw, sF.bel⟩
          · -- Sub
            as_aux_lemma =>
              have z1 : decide (0 < l'.length) = true := decide_eq_true (by omega)
              have z2 : decide ((0 : Int) < (l'.length : Int)) = true := decide_eq_true (by omega)
              clear hw
              obtain ⟨g3, rfl, hg3⟩ := own_some HO3.out (Nat.pos_of_ne_zero hz)
              have hz' : 0 < l'.length := Nat.pos_of_ne_zero hz
              have hlt3 := (own_block HO3.out).choose_spec.1.lt
              have x1 := (HE.out.cell (p := ⟨g3, 0, none⟩) hlt3 (by simp)).trans (HO3.out.cellAt 0 (by omega))
              rw [List.getElem?_map, List.getElem?_eq_getElem hz'] at x1
              have x2 := (HE.out.frozen (p := ⟨g3, 0, none⟩) hlt3 (by simp)).trans (HO3.out.frozenAt 0)
              clear hz
              go_upto_region 39 with fail
              have HT5 : Hid (St w ((wL.drewN qS).setCell ⟨g3, 0, none⟩ (.int .u64 0)) g h w2.heap.size (w2.heap.size + 1) wr.heap.size n o l') := HT.out.keep0 ((HK3.out.trans HE.out).setCell (.inr hg3) _)
              clear x1 x2
              generalize (wL.drewN qS).setCell ⟨g3, 0, none⟩ (.int .u64 0) = w5 at HT5 ⊢
              obtain ⟨A5, cap5, hrb5, hro5⟩ := HT5.out.ra.blk
              have c7 := hrb5.cell 0
              have c8 := HT5.out.raw.cell 0
              have HV5 : Hid (∀ W', Keeps w5 W' [] → W'.cell? ⟨w2.heap.size + 1, 0, none⟩ = some (.slice A5 l'.length cap5) ∧ W'.cell? ⟨w2.heap.size, 0, none⟩ = some (.pointer (some ⟨g, 0, none⟩)) ∧ Keeps w5 W' []) := fun W' kk => ⟨(HT5.out.keep0 kk).ra.cellIs kk hrb5, (HT5.out.keep0 kk).raw.cell 0, kk⟩
              have NR5 := Lib.hid (Row.of_own hro5).toNums
              clear hrb5 hro5
              go_region_held3 (fun w' => w'.cell? ⟨w2.heap.size + 1, 0, none⟩ = some (.slice A5 l'.length cap5) ∧ w'.cell? ⟨w2.heap.size, 0, none⟩ = some (.pointer (some ⟨g, 0, none⟩)) ∧ Keeps w5 w' []) (first | assumption | exact HV5.out _ (by exact ⟨rfl, rfl, rfl, Nat.le_refl _, fun _ _ _ => rfl⟩) | exact HV5.out _ (Keeps.trans (by assumption : _ ∧ _ ∧ Keeps w5 _ []).2.2 kL) | exact HV5.out _ (Keeps.drewN (by assumption : _ ∧ _ ∧ Keeps w5 _ []).2.2 _) | exact HV5.out _ (Keeps.drew (by assumption : _ ∧ _ ∧ Keeps w5 _ []).2.2))
                (first
                | (go_at_call 19; refine (cells_any (HT5.out.arAt (by assumption : _ ∧ _ ∧ Keeps w5 _ []).2.2)).mono ?_; rintro e wK ⟨AK, cK, rfl, ownK, hbK⟩; have HK1 := Lib.hid ownK; have kL := Keeps.of_below hbK []; clear ownK hbK)
                | (go_at_call 29; refine (lawCells_any AK _ _ l' _ _ rfl (by omega) ((Row.of_own HK1.out).toNums) (Nat.le_refl _)).mono ?_; rintro e wM ⟨AM, cM, rfl, ownM, hbM⟩; have HM1 := Lib.hid ownM; have kL := Keeps.of_below hbM []; clear ownM hbM)
                | (go_at_call 28; refine (same_eq AM _ _ _ _ l' _ _ _ rfl (by omega) ((Row.of_own HM1.out).toNums) (NR5.out.at_ (by assumption : _ ∧ _ ∧ Keeps w5 _ []).2.2)).mono ?_; rintro e wS ⟨rfl, qT, rfl⟩))
              have kF := (by assumption : _ ∧ _ ∧ Keeps w5 (wM.drewN qT) []).2.2
              have HF := Lib.hid kF
              clear kF c7 c8
              go_wp2_with fail
              go_roundg (100 - (k + 1))
              case measure => omega
              case rel =>
                have sF := HT5.out.keep0 HF.out
                exact ⟨k + 1, by omega, by omega, rfl, by go_num, l', sF.ar, sF.ra, sF.raw, sF.bel⟩
    · have hex : (k : Int) = m ∨ k = 100 := by omega
      by_cases hkm' : k < m
      · have d1 : decide (k < m) = true := by simp; omega
        have d2 : decide ((k : Int) < 100) = false := by simp; omega
        clear hex
        go_wp2_with fail
        go_ret
        exact ⟨rfl, HBel.out⟩
      · have d1 : decide (k < m) = false := by simp; omega
        clear hex
        go_wp2_with fail
        go_ret
        exact ⟨rfl, HBel.out⟩
end Go.Proofs.Ytanabifmeahfdaa
