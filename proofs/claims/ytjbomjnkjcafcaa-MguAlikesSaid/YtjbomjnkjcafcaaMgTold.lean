/- Layer 4's told. Printed by gen_mgtold.py. -/
import Derived.Test.YtjbomjnkjcafcaaMgUnify
import Derived.Test.YtjbomjnkjcafcaaTmRParse
import Derived.Test.YtjbomjnkjcafcaaTmTo
namespace Go.Proofs.Ytjbomjnkjcafcaa
open Go.RowKit

def m1 : Tm := .mk 2 0 ⟨#[102]⟩ [.mk 0 0 ⟨#[]⟩ [], .mk 1 0 ⟨#[98]⟩ []]
def m2 : Tm := .mk 2 0 ⟨#[102]⟩ [.mk 1 0 ⟨#[97]⟩ [], .mk 0 1 ⟨#[]⟩ []]
def m3 : Tm := .mk 2 0 ⟨#[102]⟩ [.mk 0 0 ⟨#[]⟩ []]
def kA : Tm := .mk 1 0 ⟨#[97]⟩ []
def kB : Tm := .mk 1 0 ⟨#[98]⟩ []
def kZ : Tm := .mk 0 0 ⟨#[]⟩ []
def k12 : Sbt := [(0, kA), (1, kB)]
theorem run1 : uRun 4 [(m1, m2)] [] = some (.ok k12) := by kernel_rfl
theorem sol1 : solvedT k12 = k12 := by kernel_rfl
theorem run2 : uRun 4 [(kZ, m3)] [] = some .cyc := by kernel_rfl
theorem run3 : uRun 4 [(kA, kB)] [] = some .clash := by kernel_rfl
theorem In.known {Vs : List Int} {t : Tm} (h : tRight t = true) (hv : (tV t).all (fun v => Vs.contains v) = true) : In Vs t := ⟨h, fun v hm => by
  have := List.all_eq_true.1 hv v hm
  simpa using this⟩
theorem in1 : In [0, 1] m1 := .known (by kernel_rfl) (by kernel_rfl)
theorem in2 : In [0, 1] m2 := .known (by kernel_rfl) (by kernel_rfl)
theorem in3 : In [0, 1] m3 := .known (by kernel_rfl) (by kernel_rfl)
theorem inA : In [0, 1] kA := .known (by kernel_rfl) (by kernel_rfl)
theorem inB : In [0, 1] kB := .known (by kernel_rfl) (by kernel_rfl)
theorem inZ : In [0, 1] kZ := .known (by kernel_rfl) (by kernel_rfl)
theorem few01 : Few9 [0, 1] := fun v hv => by
  simp only [List.mem_cons, List.not_mem_nil, or_false] at hv
  rcases hv with rfl | rfl <;> omega
theorem dep_known {t : Tm} {n : Nat} (h : tDep t = n) (hn : n ≤ 121) : tDep t ≤ d0 := by rw [h]; exact hn
theorem dp1 : tDep m1 ≤ d0 := dep_known (n := 2) (by kernel_rfl) (by omega)
theorem dp2 : tDep m2 ≤ d0 := dep_known (n := 2) (by kernel_rfl) (by omega)
theorem dp3 : tDep m3 ≤ d0 := dep_known (n := 2) (by kernel_rfl) (by omega)
theorem dpA : tDep kA ≤ d0 := dep_known (n := 1) (by kernel_rfl) (by omega)
theorem dpB : tDep kB ≤ d0 := dep_known (n := 1) (by kernel_rfl) (by omega)
theorem dpZ : tDep kZ ≤ d0 := dep_known (n := 1) (by kernel_rfl) (by omega)
theorem ps1 : parseD [102, 40, 88, 48, 44, 98, 41] = some m1 := by kernel_rfl
theorem ps2 : parseD [102, 40, 97, 44, 88, 49, 41] = some m2 := by kernel_rfl
theorem ps3 : parseD [102, 40, 88, 48, 41] = some m3 := by kernel_rfl
theorem leafT (w : World) (k n : Int) (s : ByteArray) (hs : s.size ≤ 9223372036854775807) : Tr w (fun _ => True) (.mk k n s []) ⟨k, n, s, none, 0, 0⟩ :=
  .mk k n s [] none 0 [] rfl Rd.nil (fun b off e => by cases e) (fun _ => rfl) ⟨hs, by simp⟩ (fun j t v h => by simp at h)

set_option maxRecDepth 100000 in
set_option maxHeartbeats 3200000 in
theorem told4_any (w : World) : Calls Try.prog 12 #[] w fun e w' => e = .returned (.bool true) ∧ Keeps w w' [] := by
  have HP1 : Hid (∀ w, Calls Try.prog 30 #[.string ⟨#[102, 40, 88, 48, 44, 98, 41]⟩] w fun e w' => ∃ v, e = .returned (.tuple #[.agg #[.int .i64 v.k, .int .i64 v.n, .string v.s, .slice v.A v.len v.c], .bool true]) ∧ Tr w' (fun b => w.heap.size ≤ b) m1 v ∧ Keeps w w' []) := fun w => by
    have h := refParse_any ⟨#[102, 40, 88, 48, 44, 98, 41]⟩ w
    have h2 : parseD ((⟨#[102, 40, 88, 48, 44, 98, 41]⟩ : ByteArray).data.toList) = some m1 := ps1
    rw [h2] at h
    exact h
  have HT1 : Hid (∀ v w, Tr w (fun _ => True) m1 v → Calls Try.prog 8 #[.agg #[.int .i64 v.k, .int .i64 v.n, .string v.s, .slice v.A v.len v.c]] w (TDone [] (fun b => w.heap.size ≤ b) w m1)) := fun v w h => tmToW_any m1 v w h (tWid_of_right in1.rt)
  have HP2 : Hid (∀ w, Calls Try.prog 30 #[.string ⟨#[102, 40, 97, 44, 88, 49, 41]⟩] w fun e w' => ∃ v, e = .returned (.tuple #[.agg #[.int .i64 v.k, .int .i64 v.n, .string v.s, .slice v.A v.len v.c], .bool true]) ∧ Tr w' (fun b => w.heap.size ≤ b) m2 v ∧ Keeps w w' []) := fun w => by
    have h := refParse_any ⟨#[102, 40, 97, 44, 88, 49, 41]⟩ w
    have h2 : parseD ((⟨#[102, 40, 97, 44, 88, 49, 41]⟩ : ByteArray).data.toList) = some m2 := ps2
    rw [h2] at h
    exact h
  have HT2 : Hid (∀ v w, Tr w (fun _ => True) m2 v → Calls Try.prog 8 #[.agg #[.int .i64 v.k, .int .i64 v.n, .string v.s, .slice v.A v.len v.c]] w (TDone [] (fun b => w.heap.size ≤ b) w m2)) := fun v w h => tmToW_any m2 v w h (tWid_of_right in2.rt)
  have HP3 : Hid (∀ w, Calls Try.prog 30 #[.string ⟨#[102, 40, 88, 48, 41]⟩] w fun e w' => ∃ v, e = .returned (.tuple #[.agg #[.int .i64 v.k, .int .i64 v.n, .string v.s, .slice v.A v.len v.c], .bool true]) ∧ Tr w' (fun b => w.heap.size ≤ b) m3 v ∧ Keeps w w' []) := fun w => by
    have h := refParse_any ⟨#[102, 40, 88, 48, 41]⟩ w
    have h2 : parseD ((⟨#[102, 40, 88, 48, 41]⟩ : ByteArray).data.toList) = some m3 := ps3
    rw [h2] at h
    exact h
  have HT3 : Hid (∀ v w, Tr w (fun _ => True) m3 v → Calls Try.prog 8 #[.agg #[.int .i64 v.k, .int .i64 v.n, .string v.s, .slice v.A v.len v.c]] w (TDone [] (fun b => w.heap.size ≤ b) w m3)) := fun v w h => tmToW_any m3 v w h (tWid_of_right in3.rt)
  have HU1 : Hid (∀ u v w, Tr w (fun _ => True) m1 u → Tr w (fun _ => True) m2 v → Calls Try.prog 11 #[.agg #[.int .i64 u.k, .int .i64 u.n, .string u.s, .slice u.A u.len u.c], .agg #[.int .i64 v.k, .int .i64 v.n, .string v.s, .slice v.A v.len v.c]] w fun e w' => Keeps w w' [] ∧ ∃ A c, e = .returned (.tuple #[.slice A 2 c, .int .i64 0]) ∧ Sub w' (fun _ => True) k12 A) := fun u v w h1 h2 => by
    refine (unify_any [0, 1] few01 (by decide) m1 m2 u v w h1 h2 in1 in2 dp1 dp2 4 _ run1).mono ?_
    rintro e w' ⟨k, A, c, rfl, hs⟩
    rw [sol1] at hs
    exact ⟨k, A, c, rfl, hs⟩
  have HU2 : Hid (∀ v w, Tr w (fun _ => True) m3 v → Calls Try.prog 11 #[.agg #[.int .i64 0, .int .i64 0, .string ⟨#[]⟩, .slice none 0 0], .agg #[.int .i64 v.k, .int .i64 v.n, .string v.s, .slice v.A v.len v.c]] w fun e w' => e = .returned (.tuple #[.slice none 0 0, .int .i64 15]) ∧ Keeps w w' []) := fun v w h2 => by
    refine (unify_any [0, 1] few01 (by decide) kZ m3 ⟨0, 0, ⟨#[]⟩, none, 0, 0⟩ v w (leafT w _ _ _ (by decide)) h2 inZ in3 dpZ dp3 4 _ run2).mono ?_
    rintro e w' ⟨k, h⟩
    exact ⟨h, k⟩
  have HU3 : Hid (∀ w, Calls Try.prog 11 #[.agg #[.int .i64 1, .int .i64 0, .string ⟨#[97]⟩, .slice none 0 0], .agg #[.int .i64 1, .int .i64 0, .string ⟨#[98]⟩, .slice none 0 0]] w fun e w' => e = .returned (.tuple #[.slice none 0 0, .int .i64 16]) ∧ Keeps w w' []) := fun w => by
    refine (unify_any [0, 1] few01 (by decide) kA kB ⟨1, 0, ⟨#[97]⟩, none, 0, 0⟩ ⟨1, 0, ⟨#[98]⟩, none, 0, 0⟩ w (leafT w _ _ _ (by decide)) (leafT w _ _ _ (by decide)) inA inB dpA dpB 4 _ run3).mono ?_
    rintro e w' ⟨k, h⟩
    exact ⟨h, k⟩
  go_enter Try.func12, Try.ntmps12
  go_wp2_with fail
  refine (HP1.out _).mono ?_
  rintro e w1 ⟨a1, rfl, ha1, k1⟩
  have kk1 := k1.alloc (.cells #[.int .i64 a1.k, .int .i64 a1.n, .string a1.s, .slice a1.A a1.len a1.c] 24)
  have HB1 : Hid (Blk (w1.alloc (.cells #[.int .i64 a1.k, .int .i64 a1.n, .string a1.s, .slice a1.A a1.len a1.c] 24)) w1.heap.size 24 #[.int .i64 a1.k, .int .i64 a1.n, .string a1.s, .slice a1.A a1.len a1.c]) := Blk.new _ _ _
  have HTr1 : Hid (Tr (w1.alloc (.cells #[.int .i64 a1.k, .int .i64 a1.n, .string a1.s, .slice a1.A a1.len a1.c] 24)) (fun _ => True) m1 a1) := (ha1.mono fun _ _ => trivial).keep ((Keeps.refl _ []).alloc _)
  have HK := Lib.hid kk1
  clear ha1 k1 kk1 HP1
  go_wp2_with fail
  refine (HP2.out _).mono ?_
  rintro e w2 ⟨b1, rfl, hb1, k2⟩
  have kk2 := k2.alloc (.cells #[.int .i64 b1.k, .int .i64 b1.n, .string b1.s, .slice b1.A b1.len b1.c] 24)
  have HB2 : Hid (Blk (w2.alloc (.cells #[.int .i64 b1.k, .int .i64 b1.n, .string b1.s, .slice b1.A b1.len b1.c] 24)) w2.heap.size 24 #[.int .i64 b1.k, .int .i64 b1.n, .string b1.s, .slice b1.A b1.len b1.c]) := Blk.new _ _ _
  have HTr2 : Hid (Tr (w2.alloc (.cells #[.int .i64 b1.k, .int .i64 b1.n, .string b1.s, .slice b1.A b1.len b1.c] 24)) (fun _ => True) m2 b1) := (hb1.mono fun _ _ => trivial).keep ((Keeps.refl _ []).alloc _)
  replace HB1 := Lib.hid (HB1.out.keep kk2 (by simp))
  replace HTr1 := Lib.hid (HTr1.out.keep kk2)
  replace HK := Lib.hid (HK.out.trans kk2)
  clear hb1 k2 kk2 HP2
  go_wp2_with fail
  refine (HP3.out _).mono ?_
  rintro e w3 ⟨c1, rfl, hc1, k3⟩
  have kk3 := k3.alloc (.cells #[.int .i64 c1.k, .int .i64 c1.n, .string c1.s, .slice c1.A c1.len c1.c] 24)
  have HB3 : Hid (Blk (w3.alloc (.cells #[.int .i64 c1.k, .int .i64 c1.n, .string c1.s, .slice c1.A c1.len c1.c] 24)) w3.heap.size 24 #[.int .i64 c1.k, .int .i64 c1.n, .string c1.s, .slice c1.A c1.len c1.c]) := Blk.new _ _ _
  have HTr3 : Hid (Tr (w3.alloc (.cells #[.int .i64 c1.k, .int .i64 c1.n, .string c1.s, .slice c1.A c1.len c1.c] 24)) (fun _ => True) m3 c1) := (hc1.mono fun _ _ => trivial).keep ((Keeps.refl _ []).alloc _)
  replace HB1 := Lib.hid (HB1.out.keep kk3 (by simp))
  replace HTr1 := Lib.hid (HTr1.out.keep kk3)
  replace HB2 := Lib.hid (HB2.out.keep kk3 (by simp))
  replace HTr2 := Lib.hid (HTr2.out.keep kk3)
  replace HK := Lib.hid (HK.out.trans kk3)
  clear hc1 k3 kk3 HP3
  go_upto_region 4 with fail
  generalize w3.alloc (.cells #[.int .i64 c1.k, .int .i64 c1.n, .string c1.s, .slice c1.A c1.len c1.c] 24) = w6 at *
  generalize w1.heap.size = ab at *
  generalize w2.heap.size = bb at *
  generalize w3.heap.size = cb at *
  have HP : Hid (∀ W', Keeps w6 W' [] → (Keeps w6 W' [] ∧ W'.cell? ⟨ab, 0, none⟩ = some (.int .i64 a1.k) ∧ W'.cell? ⟨ab, 1, none⟩ = some (.int .i64 a1.n) ∧ W'.cell? ⟨ab, 2, none⟩ = some (.string a1.s) ∧ W'.cell? ⟨ab, 3, none⟩ = some (.slice a1.A a1.len a1.c) ∧ W'.cell? ⟨bb, 0, none⟩ = some (.int .i64 b1.k) ∧ W'.cell? ⟨bb, 1, none⟩ = some (.int .i64 b1.n) ∧ W'.cell? ⟨bb, 2, none⟩ = some (.string b1.s) ∧ W'.cell? ⟨bb, 3, none⟩ = some (.slice b1.A b1.len b1.c))) := fun W' k => by
    have b0 := HB1.out.keep k (by simp)
    have b1 := HB2.out.keep k (by simp)
    exact ⟨k, b0.cell 0, b0.cell 1, b0.cell 2, b0.cell 3, b1.cell 0, b1.cell 1, b1.cell 2, b1.cell 3⟩
  refine wp_region_tw (fun W' => Keeps w6 W' [] ∧ W'.cell? ⟨ab, 0, none⟩ = some (.int .i64 a1.k) ∧ W'.cell? ⟨ab, 1, none⟩ = some (.int .i64 a1.n) ∧ W'.cell? ⟨ab, 2, none⟩ = some (.string a1.s) ∧ W'.cell? ⟨ab, 3, none⟩ = some (.slice a1.A a1.len a1.c) ∧ W'.cell? ⟨bb, 0, none⟩ = some (.int .i64 b1.k) ∧ W'.cell? ⟨bb, 1, none⟩ = some (.int .i64 b1.n) ∧ W'.cell? ⟨bb, 2, none⟩ = some (.string b1.s) ∧ W'.cell? ⟨bb, 3, none⟩ = some (.slice b1.A b1.len b1.c)) 9 [.take 0, .take 2, .go 1, .go 3, .go 4, .take 5, .take 6, .take 7, .take 8] [(9, false)] (by kernel_rfl) (by kernel_rfl) (fun w1 w2 k h => HP.out _ (h.1.trans k)) (by exact HP.out _ (Keeps.refl _ []).drew) (fun _ => ?_)
  (repeat (first | (refine wpTw_take (v := ?_) rfl ?_ (by rfl) ?_; rotate_left; (focus (intro w' hSw; (try dsimp only at hSw); go_simp; (try with_reducible rfl); done)); simp only [Act.put, List.setIfInBounds_toArray, List.set_cons_zero, List.set_cons_succ]) | (refine wpTw_skip rfl (by rfl) ?_; simp only [Act.put, List.setIfInBounds_toArray, List.set_cons_zero, List.set_cons_succ])))
  refine wpTw_go rfl (fun W11 hk11 hS11 K hK => ?_)
  have J11 := Lib.hid hS11.1
  have L11 := Lib.hid hk11
  clear hS11 hk11
  go_simp
  refine (HT1.out a1 _ (HTr1.out.keep J11.out)).mono ?_
  rintro e w11 ⟨x1, rfl, hx1, k11⟩
  have K11 := Lib.hid (J11.out.trans k11)
  have N11 := Lib.hid (L11.out.trans k11)
  have HX1 := Lib.hid (hx1.mono (S' := fun _ => True) fun _ _ => trivial)
  unfold tvV
  clear hx1
  refine hK.out _ _ k11 (HP.out _ K11.out) (fun _ => ?_)
  clear hK K
  (try simp only [Act.put, List.setIfInBounds_toArray, List.set_cons_zero, List.set_cons_succ])
  refine wpTw_go rfl (fun W12 hk12 hS12 K hK => ?_)
  have J12 := Lib.hid hS12.1
  have L12 := Lib.hid hk12
  clear hS12 hk12
  go_simp
  refine (HT2.out b1 _ (HTr2.out.keep J12.out)).mono ?_
  rintro e w12 ⟨y1, rfl, hy1, k12'⟩
  have K12 := Lib.hid (J12.out.trans k12')
  have N12 := Lib.hid (L12.out.trans k12')
  have HY1 := Lib.hid (hy1.mono (S' := fun _ => True) fun _ _ => trivial)
  unfold tvV
  clear hy1
  refine hK.out _ _ k12' (HP.out _ K12.out) (fun _ => ?_)
  clear hK K
  (try simp only [Act.put, List.setIfInBounds_toArray, List.set_cons_zero, List.set_cons_succ])
  refine wpTw_go rfl (fun W13 hk13 hS13 K hK => ?_)
  have J13 := Lib.hid hS13.1
  have L13 := Lib.hid hk13
  clear hS13 hk13
  go_simp
  refine (HU1.out x1 y1 _ (HX1.out.keep (N12.out.trans L13.out)) (HY1.out.keep L13.out)).mono ?_
  rintro e w13 ⟨k13, A, c, rfl, hs13⟩
  have K13 := Lib.hid (J13.out.trans k13)
  have N13 := Lib.hid (L13.out.trans k13)
  have HS := Lib.hid hs13
  clear hs13
  refine hK.out _ _ k13 (HP.out _ K13.out) (fun _ => ?_)
  clear hK K
  (try simp only [Act.put, List.setIfInBounds_toArray, List.set_cons_zero, List.set_cons_succ])
  (repeat (first | (refine wpTw_take (v := ?_) rfl ?_ (by rfl) ?_; rotate_left; (focus (intro w' hSw; (try dsimp only at hSw); go_simp; (try with_reducible rfl); done)); simp only [Act.put, List.setIfInBounds_toArray, List.set_cons_zero, List.set_cons_succ]) | (refine wpTw_skip rfl (by rfl) ?_; simp only [Act.put, List.setIfInBounds_toArray, List.set_cons_zero, List.set_cons_succ])))
  change wpTy _ _ _ _ _ _ _ _
  refine wpTy_last rfl (by decide) (fun K hK => ?_)
  go_simp
  refine hK.out _ _ (NoPanic.normal ?_)
  clear hK K
  (try simp only [Act.put, List.setIfInBounds_toArray, List.set_cons_zero, List.set_cons_succ])
  have HBc := Lib.hid (HB3.out.keep K13.out (by simp))
  have HTc := Lib.hid (HTr3.out.keep K13.out)
  have HKc := Lib.hid (HK.out.trans K13.out)
  clear HB1 HB2 HB3 HTr1 HTr2 HTr3 HK J11 J12 J13 K11 K12 K13 L11 L12 L13 N11 N12 N13 HX1 HY1 HP HU1 HT1 HT2 k11 k12' k13
  have q0 := HBc.out.cell 0
  have q1 := HBc.out.cell 1
  have q2 := HBc.out.cell 2
  have q3 := HBc.out.cell 3
  go_wp2_with fail
  refine (HT3.out c1 _ HTc.out).mono ?_
  rintro e w20 ⟨z1, rfl, hz1, k20⟩
  have HZ1 := Lib.hid (hz1.mono (S' := fun _ => True) fun _ _ => trivial)
  have HK20 := Lib.hid k20
  unfold tvV
  clear hz1 k20 q0 q1 q2 q3
  go_wp2_with fail
  refine (HU2.out z1 _ HZ1.out).mono ?_
  rintro e w21 ⟨rfl, k21⟩
  have HK21 := Lib.hid (HK20.out.trans k21)
  clear k21
  go_wp2_with fail
  refine (HU3.out _).mono ?_
  rintro e w22 ⟨rfl, k22⟩
  have HK22 := Lib.hid (HK21.out.trans k22)
  clear k22
  obtain ⟨v0, b, off, htr0, hA, hb, p0, p1, p2, p3, p4⟩ := (HS.out.keep HK22.out).get (j := 0) rfl
  obtain ⟨v1, b', off', htr1, hA', hb', r0, r1, r2, r3, r4⟩ := (HS.out.keep HK22.out).get (j := 1) rfl
  rw [hA] at hA'
  injection hA' with hA'
  injection hA' with e1 e2
  subst e1 e2 hA
  have n0 : v0.s = ⟨#[97]⟩ := htr0.inv.2.2.1
  have n1 : v1.s = ⟨#[98]⟩ := htr1.inv.2.2.1
  rw [n0] at p3
  rw [n1] at r3
  simp only [Nat.zero_mul, Nat.add_zero, Nat.one_mul] at p3 r3
  go_wp2_with fail
  go_ret
  exact ⟨rfl, HKc.out.trans HK22.out⟩
end Go.Proofs.Ytjbomjnkjcafcaa
