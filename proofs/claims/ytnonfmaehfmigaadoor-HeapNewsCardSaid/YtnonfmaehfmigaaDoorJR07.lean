/- The program's look for a term within itself, whole. Printed by gen_hpcyc2.py. -/
import Derived.Test.YtnonfmaehfmigaaDoorJR06
import Derived.Test.YtnonfmaehfmigaaDoorJR02
namespace Go.Proofs.YtnonfmaehfmigaaDoor
open Go.RowKit Go.Maps
section
variable {base hb ag ah vb : Nat} {AA FA TA MA : Option Addr} {ca nt ct nm cm cf : Nat} {H : PH} {tr : List Int} {mk : List (Int × Int)} {room : Nat} {U : List Int}
set_option maxRecDepth 100000 in
set_option maxHeartbeats 6400000 in
theorem cyc_step (hu : Uok H U) (ho : HOk H) {m : Nat} (IH0 : ∀ m', m' < m → CallCyc base hb ag ah vb AA FA TA MA ca nt ct nm cm cf H tr mk room U m') : CallCyc base hb ag ah vb AA FA TA MA ca nt ct nm cm cf H tr mk room U m := by
  intro w sb n S c hp hm hc
  have hbb := hp.hm.ar.bytes
  have IH : ∀ m', m' + 1 ≤ uns U S → CallCyc base hb ag ah vb AA FA TA MA ca nt ct nm cm cf H tr mk room U m' := fun m' h => IH0 m' (by omega)
  clear IH0 hm
  have hK0 : Keeps w ((w.alloc (.cells #[.pointer (some ⟨hb, 0, none⟩)] 26)).alloc (.cells #[.map (some sb)] 71)) [] := ((Keeps.refl w []).alloc _).alloc _
  have h3 : Blk ((w.alloc (.cells #[.pointer (some ⟨hb, 0, none⟩)] 26)).alloc (.cells #[.map (some sb)] 71)) w.heap.size 26 #[.pointer (some ⟨hb, 0, none⟩)] := (Blk.new _ _ _).alloc _
  have h5 : Blk ((w.alloc (.cells #[.pointer (some ⟨hb, 0, none⟩)] 26)).alloc (.cells #[.map (some sb)] 71)) (w.heap.size + 1) 71 #[.map (some sb)] := Blk.newAt _ _ (by simp)
  have hsb := hp.vc.lt
  have HNE : Hid (w.heap.size ≠ sb ∧ w.heap.size + 1 ≠ sb) := ⟨by omega, by omega⟩
  have hp0 := hp.keep hK0
  have HO := Lib.hid ho
  obtain ⟨o, hoo⟩ : ∃ o, derefP H c = o := ⟨_, rfl⟩
  obtain ⟨d, hd⟩ : ∃ d, o.getD 0 = d := ⟨_, rfl⟩
  have HD := Lib.hid (deref_any hp0.hm ho c hc.low hc.up hc.rt)
  unfold derV at HD
  rw [hoo, hd] at HD
  generalize hbx : o.isSome = bx at HD
  have HDB : Hid (U64 d) := by
    cases o with
    | none => subst hd; exact ⟨by simp, by simp⟩
    | some d' => subst hd; have := deref_is ho hbb _ c d' (Nat.le_refl _) hc.low hc.up hc.rt hoo; exact ⟨this.1, this.2.1⟩
  have HDD : Hid (kindOf d = 1 ∨ kindOf d = 3 → derefP H c = some d ∧ (derefP H d = some d ∧ d ∈ U ∧ right d = true)) := fun hk => by
    cases o with
    | none => subst hd; rw [Option.getD_none, kind_zero] at hk; omega
    | some d' =>
      subst hd
      have h1 := deref_is ho hbb _ c d' (Nat.le_refl _) hc.low hc.up hc.rt hoo
      refine ⟨hoo, h1.2.2.2.1, ?_, h1.2.2.1⟩
      rcases deref_mem hoo with rfl | h2
      · exact hc.mem
      · exact hu.cells _ h2
  have HPC : Hid (∀ x ∈ partsP H d, Cok U x) := fun x hx => by
    have h1 := parts_cell ho hbb d x hx
    refine ⟨?_, h1.1, h1.2.1, h1.2.2⟩
    rcases parts_mem hx with rfl | h2
    · exact hu.zero
    · exact hu.cells _ h2
  have HKd := Lib.hid (fun W => kind_any d W HDB.out.1 HDB.out.2)
  have HP0 := Lib.hid hp0
  have H3 := Lib.hid h3
  have H5 := Lib.hid h5
  have HK0 := Lib.hid hK0
  have x3 := h3.cell 0
  clear hp hc hbb hp0 ho hu hoo hd hbx hsb h3 h5 hK0
  go_enter Tryd.func31, Tryd.ntmps31
  go_upto_region 1 with fail
  generalize w.heap.size + 1 = b5 at *
  generalize w.heap.size = b3 at *
  generalize hw0 : (((w.alloc (.cells #[.pointer (some ⟨hb, 0, none⟩)] 26)).alloc (.cells #[.map (some sb)] 71))) = w0 at *
  go_wp2_with fail
  refine HD.out.mono ?_
  rintro e w1 ⟨rfl, k1⟩
  have HP1 := Lib.hid (HP0.out.keep k1)
  have HK1 := Lib.hid (HK0.out.trans k1)
  have H31 := Lib.hid (H3.out.keep k1 (by simp))
  have H51 := Lib.hid (H5.out.keep k1 (by simp))
  clear k1 x3 HD
  by_cases hk : kindOf d = 1
  · have HKk := Lib.hid hk
    rw [hk] at HKd
    obtain ⟨hdd, hd2⟩ := HDD.out (by rw [hk]; simp)
    have HD2 := Lib.hid (And.intro hdd hd2)
    have hlook := HP1.out.vc.look (x := d) HDB.out
    have y3 := H31.out.cell 0
    have y5 := H51.out.cell 0
    cases hS : S d with
    | some b =>
      rw [hS] at hlook
      simp only [Option.getD_some, Option.isSome_some] at hlook
      have HR : Hid (b = true → NoT H S c) := fun e => by subst e; exact noT_self hdd hd2.1 hS
      clear hdd hd2 hk hS
      go_wp2_with fail
      refine (HKd.out _).mono ?_
      rintro e w2 ⟨rfl, rfl⟩
      cases b with
      | true =>
        go_wp2_with fail
        go_ret
        exact ⟨true, S, n, rfl, HK1.out.to_ _, (fun _ => HR.out (by trivial)), (fun e => by cases e)⟩
      | false =>
        go_wp2_with fail
        go_ret
        exact ⟨false, S, n, rfl, HK1.out.to_ _, fun e => (by cases e), fun _ => ⟨HP1.out.vc, CycS.refl _ _ _⟩⟩
    | none =>
      rw [hS] at hlook
      simp only [Option.getD_none, Option.isSome_none] at hlook
      have hun := uns_put hd2.2.1 hS true
      have hb := HP1.out.bud
      obtain ⟨w2, hupd, hv2, k2⟩ := HP1.out.vc.put (x := d) (by omega) HDB.out true
      have HP2 := Lib.hid (HP1.out.next k2 hv2 (by omega))
      have h32 := H31.out.keep k2 (by simp; exact HNE.out.1)
      have h52 := H51.out.keep k2 (by simp; exact HNE.out.2)
      have H32 := Lib.hid h32
      have H52 := Lib.hid h52
      have z3 := h32.cell 0
      have HK2 := Lib.hid ((HK1.out.to_ [sb]).trans k2)
      have HUN := Lib.hid hun
      have HSn := Lib.hid hS
      have HPa := Lib.hid (parts_any HP2.out.hm HO.out d HDB.out.1 HDB.out.2 hd2.2.2)
      clear hdd hd2 hk hS hun hb hv2 k2 h32 h52
      go_wp2_with fail
      refine (HKd.out _).mono ?_
      rintro e w2 ⟨rfl, rfl⟩
      go_wp2_with fail
      refine HPa.out.mono ?_
      rintro e w3 ⟨A, c', rfl, hown, k3⟩
      have HOw := Lib.hid hown
      have HP3 := Lib.hid (HP2.out.keep k3)
      have HK3 := Lib.hid (HK2.out.trans (k3.to_ _))
      have H33 := Lib.hid (H32.out.keep k3 (by simp))
      have H53 := Lib.hid (H52.out.keep k3 (by simp))
      have hsb : sb < w2.heap.size := HP2.out.vc.lt
      have HCo := Lib.hid (cycK_any (IH (uns U (putB S d true)) HUN.out) HP3.out (Nat.le_refl _) H33.out H53.out HNE.out (partsP H d) (fun x hx => HPC.out x hx) A (partsP H d).length c' rfl (by have := parts_few HO.out d; omega) (Rd.of_own HOw.out) (fun b off e he => by
        subst e
        have hm : b ∈ ownL (.slice (some ⟨b, off, none⟩) (partsP H d).length c') := by simp [ownL, Value.ownBlock]
        have := (own_lt HOw.out hm).1
        omega))
      clear hown k3 hsb y3 y5 z3 hlook hupd HPa
      go_wp2_with fail
      refine HCo.out.mono ?_
      rintro e w4 ⟨r, rfl, k4, g1, g2⟩
      have HK4 := Lib.hid (HK3.out.trans k4)
      cases r with
      | true =>
        have HG := Lib.hid (g1 rfl)
        clear k4 g1 g2
        go_wp2_with fail
        go_ret
        refine ⟨true, S, n, rfl, HK4.out, fun _ => ?_, fun e => by cases e⟩
        obtain ⟨x, hx, hno⟩ := HG.out
        exact noT_up HD2.out.1 HD2.out.2.1 (by first | exact .inl HKk.out | exact .inr HKk.out) hx hno
      | false =>
        obtain ⟨S', n', hv4, hs4⟩ := g2 rfl
        have HS4 := Lib.hid hs4
        have hb4 := hs4.bud
        have hb5 := HP2.out.bud
        have y5 := (H53.out.keep k4 (by simp; exact HNE.out.2)).cell 0
        obtain ⟨w5, hupd, hv5, k5⟩ := hv4.put (x := d) (by omega) HDB.out false
        have HV5 := Lib.hid hv5
        have HK5 := Lib.hid (HK4.out.trans k5)
        clear k4 g1 g2 hv4 hs4 hb4 hb5 hv5 k5
        go_wp2_with fail
        go_ret
        exact ⟨false, putB S' d false, n' + 1, rfl, HK5.out, fun e => (by cases e), fun _ => ⟨HV5.out, cycS_done HD2.out.2.2.1 HSn.out HS4.out⟩⟩
  · by_cases hk3 : kindOf d = 3
    · have HKk := Lib.hid hk3
      clear hk
      have hk := hk3
      clear hk3
      rw [hk] at HKd
      obtain ⟨hdd, hd2⟩ := HDD.out (by rw [hk]; simp)
      have HD2 := Lib.hid (And.intro hdd hd2)
      have hlook := HP1.out.vc.look (x := d) HDB.out
      have y3 := H31.out.cell 0
      have y5 := H51.out.cell 0
      cases hS : S d with
      | some b =>
        rw [hS] at hlook
        simp only [Option.getD_some, Option.isSome_some] at hlook
        have HR : Hid (b = true → NoT H S c) := fun e => by subst e; exact noT_self hdd hd2.1 hS
        clear hdd hd2 hk hS
        go_wp2_with fail
        refine (HKd.out _).mono ?_
        rintro e w2 ⟨rfl, rfl⟩
        go_wp2_with fail
        refine (HKd.out _).mono ?_
        rintro e w2 ⟨rfl, rfl⟩
        cases b with
        | true =>
          go_wp2_with fail
          go_ret
          exact ⟨true, S, n, rfl, HK1.out.to_ _, (fun _ => HR.out (by trivial)), (fun e => by cases e)⟩
        | false =>
          go_wp2_with fail
          go_ret
          exact ⟨false, S, n, rfl, HK1.out.to_ _, fun e => (by cases e), fun _ => ⟨HP1.out.vc, CycS.refl _ _ _⟩⟩
      | none =>
        rw [hS] at hlook
        simp only [Option.getD_none, Option.isSome_none] at hlook
        have hun := uns_put hd2.2.1 hS true
        have hb := HP1.out.bud
        obtain ⟨w2, hupd, hv2, k2⟩ := HP1.out.vc.put (x := d) (by omega) HDB.out true
        have HP2 := Lib.hid (HP1.out.next k2 hv2 (by omega))
        have h32 := H31.out.keep k2 (by simp; exact HNE.out.1)
        have h52 := H51.out.keep k2 (by simp; exact HNE.out.2)
        have H32 := Lib.hid h32
        have H52 := Lib.hid h52
        have z3 := h32.cell 0
        have HK2 := Lib.hid ((HK1.out.to_ [sb]).trans k2)
        have HUN := Lib.hid hun
        have HSn := Lib.hid hS
        have HPa := Lib.hid (parts_any HP2.out.hm HO.out d HDB.out.1 HDB.out.2 hd2.2.2)
        clear hdd hd2 hk hS hun hb hv2 k2 h32 h52
        go_wp2_with fail
        refine (HKd.out _).mono ?_
        rintro e w2 ⟨rfl, rfl⟩
        go_wp2_with fail
        refine (HKd.out _).mono ?_
        rintro e w2 ⟨rfl, rfl⟩
        go_wp2_with fail
        refine HPa.out.mono ?_
        rintro e w3 ⟨A, c', rfl, hown, k3⟩
        have HOw := Lib.hid hown
        have HP3 := Lib.hid (HP2.out.keep k3)
        have HK3 := Lib.hid (HK2.out.trans (k3.to_ _))
        have H33 := Lib.hid (H32.out.keep k3 (by simp))
        have H53 := Lib.hid (H52.out.keep k3 (by simp))
        have hsb : sb < w2.heap.size := HP2.out.vc.lt
        have HCo := Lib.hid (cycK_any (IH (uns U (putB S d true)) HUN.out) HP3.out (Nat.le_refl _) H33.out H53.out HNE.out (partsP H d) (fun x hx => HPC.out x hx) A (partsP H d).length c' rfl (by have := parts_few HO.out d; omega) (Rd.of_own HOw.out) (fun b off e he => by
          subst e
          have hm : b ∈ ownL (.slice (some ⟨b, off, none⟩) (partsP H d).length c') := by simp [ownL, Value.ownBlock]
          have := (own_lt HOw.out hm).1
          omega))
        clear hown k3 hsb y3 y5 z3 hlook hupd HPa
        go_wp2_with fail
        refine HCo.out.mono ?_
        rintro e w4 ⟨r, rfl, k4, g1, g2⟩
        have HK4 := Lib.hid (HK3.out.trans k4)
        cases r with
        | true =>
          have HG := Lib.hid (g1 rfl)
          clear k4 g1 g2
          go_wp2_with fail
          go_ret
          refine ⟨true, S, n, rfl, HK4.out, fun _ => ?_, fun e => by cases e⟩
          obtain ⟨x, hx, hno⟩ := HG.out
          exact noT_up HD2.out.1 HD2.out.2.1 (by first | exact .inl HKk.out | exact .inr HKk.out) hx hno
        | false =>
          obtain ⟨S', n', hv4, hs4⟩ := g2 rfl
          have HS4 := Lib.hid hs4
          have hb4 := hs4.bud
          have hb5 := HP2.out.bud
          have y5 := (H53.out.keep k4 (by simp; exact HNE.out.2)).cell 0
          obtain ⟨w5, hupd, hv5, k5⟩ := hv4.put (x := d) (by omega) HDB.out false
          have HV5 := Lib.hid hv5
          have HK5 := Lib.hid (HK4.out.trans k5)
          clear k4 g1 g2 hv4 hs4 hb4 hb5 hv5 k5
          go_wp2_with fail
          go_ret
          exact ⟨false, putB S' d false, n' + 1, rfl, HK5.out, fun e => (by cases e), fun _ => ⟨HV5.out, cycS_done HD2.out.2.2.1 HSn.out HS4.out⟩⟩
    · have e1 : (kindOf d == 1) = false := by simpa using hk
      have e1' : (kindOf d != 1) = true := by simpa using hk
      have e3 : (kindOf d == 3) = false := by simpa using hk3
      have e3' : (kindOf d != 3) = true := by simpa using hk3
      clear hk hk3
      go_wp2_with fail
      refine (HKd.out _).mono ?_
      rintro e w2 ⟨rfl, rfl⟩
      go_wp2_with fail
      refine (HKd.out _).mono ?_
      rintro e w2 ⟨rfl, rfl⟩
      go_wp2_with fail
      go_ret
      exact ⟨false, S, n, rfl, HK1.out.to_ _, fun e => (by cases e), fun _ => ⟨HP1.out.vc, CycS.refl _ _ _⟩⟩
theorem cyclic_any (hu : Uok H U) (ho : HOk H) (m : Nat) : CallCyc base hb ag ah vb AA FA TA MA ca nt ct nm cm cf H tr mk room U m := by
  induction m using Nat.strongRecOn with
  | ind m ih => exact cyc_step hu ho ih
end
end Go.Proofs.YtnonfmaehfmigaaDoor

/- The program's reading of a cell. Printed by gen_hpread.py. -/
namespace Go.Proofs.YtnonfmaehfmigaaDoor
open Go.RowKit Go.Maps
/-- What is read: a tree, how many may come yet, what is wrong. -/
def RdD (w : World) (rb hb : Nat) (r : Tm × (Int × Int)) (e : Ending) (w' : World) : Prop :=
  ∃ v, e = .returned (tvV v) ∧ Tr w' (fun b => w.heap.size ≤ b) r.1 v ∧ Blk w' rb 74 #[.pointer (some ⟨hb, 0, none⟩), .int .i64 r.2.1, .int .i64 r.2.2] ∧ Keeps w w' [rb]
def zV : TV := ⟨0, 0, ⟨#[]⟩, none, 0, 0⟩
theorem tr_leaf (w : World) (S : Nat → Prop) (k n : Int) (s : ByteArray) (hs : s.size ≤ 9223372036854775807) : Tr w S (.mk k n s []) ⟨k, n, s, none, 0, 0⟩ :=
  .mk k n s [] none 0 [] rfl (fun i hi => by simp at hi) (fun b off e hne => absurd rfl hne) (fun _ => rfl) ⟨hs, by simp⟩ (fun j t v h => by simp at h)
theorem tr_zero (w : World) (S : Nat → Prop) : Tr w S tZ zV := tr_leaf w S 0 0 ⟨#[]⟩ (by decide)
/-- The result's block is written at the end. -/
theorem RdD.end4 {w wr : World} {rb hb g : Nat} {r : Tm × (Int × Int)} {v : TV} (h : Tr wr (fun b => w.heap.size ≤ b ∧ b ≠ g) r.1 v) (hB : Blk wr rb 74 #[.pointer (some ⟨hb, 0, none⟩), .int .i64 r.2.1, .int .i64 r.2.2]) (hk : Keeps w wr [rb]) (hg : w.heap.size ≤ g) (hr : rb < w.heap.size) (v0 v1 v2 v3 : Value) :
    RdD w rb hb r (.returned (tvV v)) ((((wr.setCell ⟨g, 0, none⟩ v0).setCell ⟨g, 1, none⟩ v1).setCell ⟨g, 2, none⟩ v2).setCell ⟨g, 3, none⟩ v3) := by
  have ks : Keeps wr ((((wr.setCell ⟨g, 0, none⟩ v0).setCell ⟨g, 1, none⟩ v1).setCell ⟨g, 2, none⟩ v2).setCell ⟨g, 3, none⟩ v3) [g] := (((((Keeps.refl wr [g]).setCell (.inl (by simp)) _).setCell (.inl (by simp)) _).setCell (.inl (by simp)) _).setCell (.inl (by simp)) _)
  exact ⟨v, rfl, (h.keepL ks (fun b hb h => h.2 (by simpa using hb))).mono fun b hb => hb.1, hB.keep ks (by simp; omega), ((((hk.setCell (.inr hg) _).setCell (.inr hg) _).setCell (.inr hg) _).setCell (.inr hg) _)⟩
/-- .. by what a callee made. -/
theorem RdD.up4 {w w1 wr : World} {rb hb g : Nat} {r : Tm × (Int × Int)} {v : TV} (h : Tr wr (fun b => w1.heap.size ≤ b) r.1 v) (hB : Blk wr rb 74 #[.pointer (some ⟨hb, 0, none⟩), .int .i64 r.2.1, .int .i64 r.2.2]) (hk : Keeps w wr [rb]) (hg : w.heap.size ≤ g) (hg1 : g < w1.heap.size) (hr : rb < w.heap.size) (v0 v1 v2 v3 : Value) :
    RdD w rb hb r (.returned (tvV v)) ((((wr.setCell ⟨g, 0, none⟩ v0).setCell ⟨g, 1, none⟩ v1).setCell ⟨g, 2, none⟩ v2).setCell ⟨g, 3, none⟩ v3) :=
  RdD.end4 (h.mono fun b hb => ⟨by omega, by omega⟩) hB hk hg hr v0 v1 v2 v3
set_option maxRecDepth 100000 in
set_option maxHeartbeats 1600000 in
theorem fail_any {w : World} {rb hb : Nat} {left : Int} (h : Blk w rb 74 #[.pointer (some ⟨hb, 0, none⟩), .int .i64 left, .int .i64 0]) (e : Int) :
    Calls Tryd.prog 64 #[.pointer (some ⟨rb, 0, none⟩), .int .i64 e] w (RdD w rb hb (tZ, (left, e))) := by
  have hlt := h.lt
  have hB0 := h.alloc (.cells #[.int .i64 0, .int .i64 0, .string ⟨#[]⟩, .slice none 0 0] 34)
  have hG0 : Blk (w.alloc (.cells #[.int .i64 0, .int .i64 0, .string ⟨#[]⟩, .slice none 0 0] 34)) w.heap.size 34 #[.int .i64 0, .int .i64 0, .string ⟨#[]⟩, .slice none 0 0] := Blk.new _ _ _
  have hK0 : Keeps w (w.alloc (.cells #[.int .i64 0, .int .i64 0, .string ⟨#[]⟩, .slice none 0 0] 34)) [rb] := (Keeps.refl w [rb]).alloc _
  have HB0 := Lib.hid hB0
  have HG := Lib.hid hG0
  have HK0 := Lib.hid hK0
  have hne : w.heap.size ≠ rb := by omega
  have hne' : rb ≠ w.heap.size := by omega
  have x2 := hB0.cell 2
  have y2 := hB0.frozen 2
  clear h hB0 hG0 hK0
  go_enter Tryd.func64, Tryd.ntmps64
  go_upto_region 1 with fail
  generalize (w.alloc (.cells #[.int .i64 0, .int .i64 0, .string ⟨#[]⟩, .slice none 0 0] 34)) = w0 at HB0 HG HK0 x2 y2 ⊢
  have HP : Hid (∀ v0 v1 v2 v3, RdD w rb hb (tZ, (left, e)) (.returned (tvV zV)) (((((w0.setCell ⟨rb, 2, none⟩ (.int .i64 e)).setCell ⟨w.heap.size, 0, none⟩ v0).setCell ⟨w.heap.size, 1, none⟩ v1).setCell ⟨w.heap.size, 2, none⟩ v2).setCell ⟨w.heap.size, 3, none⟩ v3)) := fun v0 v1 v2 v3 =>
    RdD.end4 (tr_zero _ _) (by have := HB0.out.set_ 2 (.int .i64 e); simpa using this) (HK0.out.setCell (.inl (by simp)) _) (Nat.le_refl _) hlt v0 v1 v2 v3
  clear HB0 HK0
  have r0 := HG.out.cell 0
  have r1 := HG.out.cell 1
  have r2 := HG.out.cell 2
  have r3 := HG.out.cell 3
  have f0 := HG.out.frozen 0
  have f1 := HG.out.frozen 1
  have f2 := HG.out.frozen 2
  have f3 := HG.out.frozen 3
  go_wp2_with fail
  exact bodyPost_ret (v := .agg #[.int .i64 0, .int .i64 0, .string ⟨#[]⟩, .slice none 0 0]) (by simp [results, Tryd.results64, go_sem, *]) rfl (HP.out _ _ _ _)
end Go.Proofs.YtnonfmaehfmigaaDoor

/- The program's reading of a compound cell. Printed by gen_hpreadb.py. -/
namespace Go.Proofs.YtnonfmaehfmigaaDoor
open Go.RowKit Go.Maps
theorem row_blk {w : World} {base n c : Nat} {e : TypeId} {A : Option Addr} {xs : List Value} (h : w.ownsRow base e 1 (.slice A n c) n xs) (hn : 0 < n) : ∃ g cur, A = some ⟨g, 0, none⟩ ∧ base ≤ g ∧ Blk w g e cur ∧ ∀ (j : Nat) v, xs[j]? = some v → cur[j]? = some v := by
  rcases h.2 with ⟨h2, h3⟩ | ⟨g, cap, cur, he, hb, hB, _, _, _, ht⟩
  · omega
  · injection he with h1 h2 h3
    subst h1
    refine ⟨g, cur, rfl, hb, hB, fun j v hv => ?_⟩
    rw [← ht, List.getElem?_take] at hv
    split at hv
    · rw [← Array.getElem?_toList]; exact hv
    · cases hv
section
variable {base hb ag ah vb : Nat} {AA FA TA MA : Option Addr} {ca nt ct nm cm cf : Nat} {H : PH} {tr : List Int} {mk : List (Int × Int)} {room : Nat}
def CallRd (base hb ag ah vb : Nat) (AA FA TA MA : Option Addr) (ca nt ct nm cm cf : Nat) (H : PH) (tr : List Int) (mk : List (Int × Int)) (room f : Nat) : Prop :=
  ∀ (w : World) (rb : Nat) (c : Int) (s : Int × Int), Hm w base hb ag ah vb AA FA TA MA ca nt ct nm cm cf H tr mk room → rb ∉ hpL hb ag ah vb AA FA TA MA → Blk w rb 74 #[.pointer (some ⟨hb, 0, none⟩), .int .i64 s.1, .int .i64 s.2] → (s.2 = 0 → 0 ≤ s.1) → s.1 < f → -1000000000000 ≤ s.1 → 0 ≤ c → c < 18446744073709551616 → right c = true →
    Calls Tryd.prog 32 #[.pointer (some ⟨rb, 0, none⟩), .int .u64 c] w (RdD w rb hb (rd H f c s))
set_option maxRecDepth 100000 in
set_option maxHeartbeats 3200000 in
theorem cpd3_any (ho : HOk H) {f : Nat} (hf : f ≤ 100000) (hC : CallRd base hb ag ah vb AA FA TA MA ca nt ct nm cm cf H tr mk room f) {w : World} {rb : Nat} {d k : Int} (hm : Hm w base hb ag ah vb AA FA TA MA ca nt ct nm cm cf H tr mk room) (hout : rb ∉ hpL hb ag ah vb AA FA TA MA) (hbl : Blk w rb 74 #[.pointer (some ⟨hb, 0, none⟩), .int .i64 k, .int .i64 0]) (hk0 : 0 ≤ k) (hkf : k < f) (h0 : 0 ≤ d) (h1 : d < 18446744073709551616) (hr : right d = true) (hk : kindOf d = 3) : Calls Tryd.prog 65 #[.pointer (some ⟨rb, 0, none⟩), .int .u64 d] w (RdD w rb hb (.mk 3 0 ⟨#[]⟩ (rdL (rd H f) (partsP H d) ([], (k, 0))).1, (rdL (rd H f) (partsP H d) ([], (k, 0))).2)) := by
  have hl2 : (partsP H d).length = 2 := by unfold partsP; rw [if_neg (by omega)]; rfl
  have hlt := hbl.lt
  have hbb := hm.ar.bytes
  have HPC : Hid (∀ x ∈ partsP H d, 0 ≤ x ∧ x < 18446744073709551616 ∧ right x = true) := parts_cell ho hbb d
  have hfew := parts_few ho d
  have HLow : Hid (∀ j, j ≤ (partsP H d).length → ((rdL (rd H f) ((partsP H d).take j) ([], (k, 0))).1.length = j ∧ ((rdL (rd H f) ((partsP H d).take j) ([], (k, 0))).2.2 = 0 → 0 ≤ (rdL (rd H f) ((partsP H d).take j) ([], (k, 0))).2.1) ∧ -2 - 1002 * (f : Int) - (j : Int) ≤ (rdL (rd H f) ((partsP H d).take j) ([], (k, 0))).2.1 ∧ (rdL (rd H f) ((partsP H d).take j) ([], (k, 0))).2.1 ≤ k)) := fun j hj =>
    rdL_low (rd_low ho f) k hk0 hkf j _ (by rw [List.length_take]; omega)
  have HHm : Hid (∀ W, Keeps w W [rb] → Hm W base hb ag ah vb AA FA TA MA ca nt ct nm cm cf H tr mk room) := fun W kk => hm.keep kk (fun b hb' => by simp at hb'; subst hb'; exact hout)
  have HOut := Lib.hid hout
  have hK0 : Keeps w ((w.alloc (.cells #[.int .i64 0, .int .i64 0, .string ⟨#[]⟩, .slice none 0 0] 34)).alloc (.cells #[.int .i64 3, .int .i64 0, .string ⟨#[]⟩, .slice none 0 0] 34)) [] := ((Keeps.refl w []).alloc _).alloc _
  have hG0 : Blk ((w.alloc (.cells #[.int .i64 0, .int .i64 0, .string ⟨#[]⟩, .slice none 0 0] 34)).alloc (.cells #[.int .i64 3, .int .i64 0, .string ⟨#[]⟩, .slice none 0 0] 34)) w.heap.size 34 #[.int .i64 0, .int .i64 0, .string ⟨#[]⟩, .slice none 0 0] := (Blk.new _ _ _).alloc _
  have hT0 : Blk ((w.alloc (.cells #[.int .i64 0, .int .i64 0, .string ⟨#[]⟩, .slice none 0 0] 34)).alloc (.cells #[.int .i64 3, .int .i64 0, .string ⟨#[]⟩, .slice none 0 0] 34)) (w.heap.size + 1) 34 #[.int .i64 3, .int .i64 0, .string ⟨#[]⟩, .slice none 0 0] := Blk.newAt _ _ (by simp)
  have HK0 := Lib.hid hK0
  have HG0 := Lib.hid hG0
  have HT0 := Lib.hid hT0
  have HB0 := Lib.hid (hbl.keep hK0 (by simp))
  have HO := Lib.hid ho
  have HKd := Lib.hid (fun W => kind_any d W h0 h1)
  rw [hk] at HKd
  obtain ⟨m, hmm⟩ : ∃ m, (partsP H d).length = m := ⟨_, rfl⟩
  have HM := Lib.hid hmm
  have HPa := Lib.hid (parts_any (HHm.out _ (hK0.to_ _)) ho d h0 h1 hr)
  unfold RowD at HPa
  rw [hmm] at HPa HLow hfew
  rw [hmm] at hl2
  clear hm hk hbb hK0 hG0 hT0 hbl hout ho hmm h0 h1 hr
  go_enter Tryd.func65, Tryd.ntmps65
  go_upto_region 2 with fail
  generalize ((w.alloc (.cells #[.int .i64 0, .int .i64 0, .string ⟨#[]⟩, .slice none 0 0] 34)).alloc (.cells #[.int .i64 3, .int .i64 0, .string ⟨#[]⟩, .slice none 0 0] 34)) = w0 at HK0 HG0 HT0 HB0 HPa ⊢
  have x0 := HB0.out.cell 0
  go_wp2_with fail
  refine HPa.out.mono ?_
  rintro e w1 ⟨A, c1, rfl, hown, k1⟩
  have HOw := Lib.hid hown
  have HK1 := Lib.hid (HK0.out.trans k1)
  have HB1 := Lib.hid (HB0.out.keep k1 (by simp))
  have HG1 := Lib.hid (HG0.out.keep k1 (by simp))
  have HT1 := Lib.hid (HT0.out.keep k1 (by simp))
  have HZ := Lib.hid HK0.out.size
  clear hown k1 x0 HPa
  go_wp2_with fail
  refine (HKd.out _).mono ?_
  rintro e w2 ⟨rfl, rfl⟩
  obtain ⟨pb, cur, rfl, hpb, hPB, hcur⟩ := row_blk HOw.out (by omega)
  have hw0 := HZ.out
  have hpbn : w.heap.size + 1 < w0.heap.size := HT0.out.lt
  have HST : Hid (TSt 34 (fun b => w.heap.size ≤ b) w w1 [rb] [(w.heap.size, 34, #[.int .i64 0, .int .i64 0, .string ⟨#[]⟩, .slice none 0 0]), (pb, 28, cur)] (w.heap.size + 1) 3 0 ⟨#[]⟩ [] [] none 0 0) := TSt.start (by
    intro y hy
    simp only [List.mem_cons, List.not_mem_nil, or_false] at hy
    rcases hy with rfl | rfl
    · exact ⟨HG1.out, by show w.heap.size ≠ _; omega⟩
    · exact ⟨hPB, by show pb ≠ _; omega⟩) (HT1.out) (HK1.out.to_ _) (by omega) (fun b h => h) (by decide)
  have HBl : Hid (Blk w1 rb 74 #[.pointer (some ⟨hb, 0, none⟩), .int .i64 k, .int .i64 0]) := HB1.out
  have HRow : Hid (∀ (j : Nat) x, (partsP H d)[j]? = some x → cur[j]? = some (.int .u64 x)) := fun j x hx => hcur j _ (by rw [List.getElem?_map, hx]; rfl)
  have HFr : Hid (∀ y ∈ [(w.heap.size, 34, #[.int .i64 0, .int .i64 0, .string ⟨#[]⟩, .slice none 0 0]), (pb, 28, cur)], y.1 ∉ [rb]) := by
    intro y hy
    simp only [List.mem_cons, List.not_mem_nil, or_false] at hy ⊢
    rcases hy with rfl | rfl
    · show w.heap.size ≠ rb; omega
    · show pb ≠ rb; omega
  clear hcur hPB
  go_upto_region 8 with fail
  go_wp2_with fail
  have hcell : ∀ (j : Nat) (x : Int), (partsP H d)[j]? = some x → cur[j]? = some (Value.int .u64 x) := HRow.out
  go_loopw [10, 55] (fun x10 x55 wr => ∃ (j : Nat) (A2 : Option Addr) (c2 : Nat) (us : List TV), j ≤ m ∧ x55 = .int .i64 j ∧ TSt 34 (fun b => w.heap.size ≤ b) w wr [rb] [(w.heap.size, 34, #[.int .i64 0, .int .i64 0, .string ⟨#[]⟩, .slice none 0 0]), (pb, 28, cur)] (w.heap.size + 1) 3 0 ⟨#[]⟩ (rdL (rd H f) ((partsP H d).take j) ([], (k, 0))).1 us A2 j c2 ∧ Blk wr rb 74 #[.pointer (some ⟨hb, 0, none⟩), .int .i64 (rdL (rd H f) ((partsP H d).take j) ([], (k, 0))).2.1, .int .i64 (rdL (rd H f) ((partsP H d).take j) ([], (k, 0))).2.2]) (fun _ i _ => m - (intOf i).toNat)
  case atStart => exact ⟨0, none, 0, [], Nat.zero_le _, rfl, by rw [List.take_zero]; exact HST.out, by rw [List.take_zero]; exact HBl.out⟩
  case round =>
    obtain ⟨j, A2, c2, us, hj, rfl, st, hbl⟩ := hrel
    have HS := Lib.hid st
    have HBL := Lib.hid hbl
    have e1 := (st.fix (pb, 28, cur) (by simp)).1.cell j
    clear st hbl
    by_cases hlt : j < m
    · obtain ⟨x, hx⟩ := at_of HM.out hlt
      rw [hcell j x hx] at e1
      have HX := Lib.hid hx
      obtain ⟨g1, g2, g3, g4⟩ := HLow.out j (by omega)
      obtain ⟨q, hq⟩ : ∃ q, rdL (rd H f) ((partsP H d).take j) ([], (k, 0)) = q := ⟨_, rfl⟩
      rw [hq] at g1 g2 g3 g4
      have HQ := Lib.hid hq
      rw [hq] at HS HBL
      have hpc := HPC.out x (List.mem_of_getElem? hx)
      have HC : Hid (∀ W, Keeps wr W [] → Calls Tryd.prog 32 #[.pointer (some ⟨rb, 0, none⟩), .int .u64 x] W (RdD W rb hb (rd H f x q.2))) := fun W kk =>
        hC W rb x q.2 (HHm.out _ (HS.out.keep.trans (kk.to_ _))) HOut.out (HBL.out.keep kk (by simp)) g2 (by omega) (by omega) hpc.1 hpc.2.1 hpc.2.2
      have HW : Hid (∀ W', Keeps wr W' (rb :: ownL (.slice A2 j c2)) → W'.frozen? ⟨w.heap.size + 1, 3, none⟩ = false ∧ W'.cell? ⟨w.heap.size + 1, 3, none⟩ = some (.slice A2 j c2)) := fun W' kk =>
        have hn : w.heap.size + 1 ∉ rb :: ownL (.slice A2 j c2) := by
          simp only [List.mem_cons, not_or]
          exact ⟨by omega, HS.out.low.2.1⟩
        ⟨(HS.out.out.keep kk hn).frozen 3, (HS.out.out.keep kk hn).cell 3⟩
      obtain ⟨q0, q1⟩ := HW.out wr (Keeps.refl _ _)
      have b0 : (0 : Int) ≤ (j : Int) := Int.natCast_nonneg _
      have b1 : (j : Int) < (m : Int) := by omega
      clear g1 g2 g3 g4 hpc hx hq hcell
      go_upto_region 11 with fail
      refine wp_region_tx (fun W' => W'.frozen? ⟨w.heap.size + 1, 3, none⟩ = false ∧ W'.cell? ⟨w.heap.size + 1, 3, none⟩ = some (.slice A2 j c2)) [(0, true), (1, true), (2, true), (3, true), (4, false), (5, false), (6, false), (7, true), (8, false)] (by kernel_rfl) (by kernel_rfl) (HW.out _ ((Keeps.refl _ _).drew)) (fun hHeld => ?_)
      (repeat (first | (refine wpTx_take (v := ?_) rfl (by assumption) ?_ (by rfl) ?_; rotate_left; (focus (intro w' hSw; (try dsimp only at hSw); go_simp; (try with_reducible rfl); done)); simp only [Act.put, List.setIfInBounds_toArray, List.set_cons_zero, List.set_cons_succ]) | (refine wpTx_skip rfl (by assumption) (by rfl) ?_; simp only [Act.put, List.setIfInBounds_toArray, List.set_cons_zero, List.set_cons_succ])))
      refine wpTx_go rfl (fun K hK => ?_)
      go_simp
      refine (HC.out _ (Keeps.refl _ _).drew).mono ?_
      rintro e w3 ⟨u, rfl, hu, hb3, k3⟩
      have HU : Hid (Tr w3 (fun b => wr.heap.size ≤ b) (rd H f x q.2).1 u) := hu
      have HB3 := Lib.hid hb3
      have HK3 : Hid (Keeps wr w3 [rb]) := Keeps.trans ((Keeps.refl wr [rb]).drew) k3
      unfold tvV
      clear hu hb3 k3
      refine hK.out _ _ ?_ ?_
      · exact HW.out _ (HK3.out.more (fun b _ hb => List.mem_cons.2 (.inl (by simpa using hb))))
      (clear hHeld; intro hHeld; clear hK K; (try simp only [Act.put, List.setIfInBounds_toArray, List.set_cons_zero, List.set_cons_succ]))
      refine wpTx_go rfl (fun K hK => ?_)
      go_simp
      refine hK.out _ _ ?_ ?_
      · exact HW.out _ ((HK3.out.alloc _).more (fun b _ hb => List.mem_cons.2 (.inl (by simpa using hb))))
      (clear hHeld; intro hHeld; clear hK K; (try simp only [Act.put, List.setIfInBounds_toArray, List.set_cons_zero, List.set_cons_succ]))
      refine wpTx_go rfl (fun K hK => ?_)
      have hst3 := HS.out.keepL HK3.out (by simp; omega) HFr.out (by simp; omega)
      have hfr := (HS.out.fresh HU.out).keep ((Keeps.refl w3 []).alloc (.cells (tvE u).toArray 34))
      have HST3 := Lib.hid hst3
      have HFR := Lib.hid hfr
      refine step_app _ el_pterm (by rfl) _ _ (by rfl) w.heap.size A2 j c2 (us.flatMap tvE) (by rfl) (own_keep0 hst3.row ((Keeps.refl w3 []).alloc _)) (some ⟨w3.heap.size, 0, none⟩) 1 1 (tvE u) (by rfl) (Rd.one w3 _ (tvE u)) rfl (by simp) (by simp [tvE, Value.oneCell']) (by omega) (by simp; have := HS.out.keep.size; have := HK3.out.size; omega) ?_
      intro A' c' w2 hown hgrow hat
      have HSt := Lib.hid (HST3.out.step ((Keeps.refl w3 []).alloc _) HFR.out hown hgrow hat)
      have HBf : Hid (∀ u', Blk (w2.setCell ⟨w.heap.size + 1, 3, none⟩ u') rb 74 #[.pointer (some ⟨hb, 0, none⟩), .int .i64 (rd H f x q.2).2.1, .int .i64 (rd H f x q.2).2.2]) := fun u' =>
        ((HB3.out.alloc _).grown hgrow (fun e => by
          have hm : rb ∈ ownL (.slice A2 j c2) := by unfold ownL; rw [← e]; simp
          have := (own_lt HS.out.row hm).1
          omega)).far (by show rb ≠ w.heap.size + 1; omega) u'
      refine hK.out _ _ ?_ ?_
      · exact HW.out _ (((HK3.out.alloc _).more (fun b _ hb => List.mem_cons.2 (.inl (by simpa using hb)))).trans ((Keeps.ofGrown hgrow).more (fun b _ hb => List.mem_cons.2 (.inr hb))))
      (clear hHeld; intro hHeld; clear hK K; (try simp only [Act.put, List.setIfInBounds_toArray, List.set_cons_zero, List.set_cons_succ]))
      (repeat (first | (refine wpTx_take (v := ?_) rfl (by assumption) ?_ (by rfl) ?_; rotate_left; (focus (intro w' hSw; (try dsimp only at hSw); go_simp; (try with_reducible rfl); done)); simp only [Act.put, List.setIfInBounds_toArray, List.set_cons_zero, List.set_cons_succ]) | (refine wpTx_skip rfl (by assumption) (by rfl) ?_; simp only [Act.put, List.setIfInBounds_toArray, List.set_cons_zero, List.set_cons_succ])))
      refine wpTx_last rfl (fun K hK => ?_)
      go_simp
      refine hK.out _ _ (NoPanic.normal ?_); clear hK K; (try simp only [Act.put, List.setIfInBounds_toArray, List.set_cons_zero, List.set_cons_succ])
      go_wp2_with fail
      go_roundw
      case rel => exact ⟨j + 1, A', c', us ++ [u], by omega, by go_num, by rw [List.take_add_one, HX.out, Option.toList_some, rdL_snoc, HQ.out]; exact HSt.out, by rw [List.take_add_one, HX.out, Option.toList_some, rdL_snoc, HQ.out]; exact HBf.out _⟩
      case measure => simp [intOf]; omega
    · obtain rfl : m = j := by omega
      have htk : (partsP H d).take m = partsP H d := List.take_of_length_le (by rw [HM.out]; omega)
      rw [htk] at HS HBL
      have hd := HS.out.done (by omega)
      have hr := (HS.out.fix (w.heap.size, 34, #[.int .i64 0, .int .i64 0, .string ⟨#[]⟩, .slice none 0 0]) (by simp)).1
      have d0 := HS.out.out.cell 0
      have d1 := HS.out.out.cell 1
      have d2 := HS.out.out.cell 2
      have d3 := HS.out.out.cell 3
      have r0 := hr.cell 0
      have r1 := hr.cell 1
      have r2 := hr.cell 2
      have r3 := hr.cell 3
      have f0 := hr.frozen 0
      have f1 := hr.frozen 1
      have f2 := hr.frozen 2
      have f3 := hr.frozen 3
      have HD : Hid (∀ v0 v1 v2 v3, RdD w rb hb (.mk 3 0 ⟨#[]⟩ (rdL (rd H f) (partsP H d) ([], (k, 0))).1, (rdL (rd H f) (partsP H d) ([], (k, 0))).2) (.returned (tvV ⟨3, 0, ⟨#[]⟩, A2, m, c2⟩)) ((((wr.setCell ⟨w.heap.size, 0, none⟩ v0).setCell ⟨w.heap.size, 1, none⟩ v1).setCell ⟨w.heap.size, 2, none⟩ v2).setCell ⟨w.heap.size, 3, none⟩ v3)) := fun v0 v1 v2 v3 =>
        RdD.end4 (hd.mono fun b hb => ⟨hb.1, hb.2.2 (w.heap.size, 34, #[.int .i64 0, .int .i64 0, .string ⟨#[]⟩, .slice none 0 0]) (by simp)⟩) HBL.out HS.out.keep (Nat.le_refl _) (by omega) v0 v1 v2 v3
      clear hd hr hlt hj e1 htk hcell
      go_wp2_with fail
      exact bodyPost_ret (v := .agg #[.int .i64 3, .int .i64 0, .string ⟨#[]⟩, .slice A2 m c2]) (by simp [results, Tryd.results65, go_sem, *]) rfl (HD.out _ _ _ _)
set_option maxRecDepth 100000 in
set_option maxHeartbeats 3200000 in
theorem cpd0_any (ho : HOk H) {f : Nat} {w : World} {rb : Nat} {d k : Int} (hm : Hm w base hb ag ah vb AA FA TA MA ca nt ct nm cm cf H tr mk room) (hout : rb ∉ hpL hb ag ah vb AA FA TA MA) (hbl : Blk w rb 74 #[.pointer (some ⟨hb, 0, none⟩), .int .i64 k, .int .i64 0]) (hk0 : 0 ≤ k) (hkf : k < f) (h0 : 0 ≤ d) (h1 : d < 18446744073709551616) (hr : right d = true) (hk : kindOf d = 1) (hnil : partsP H d = []) : Calls Tryd.prog 65 #[.pointer (some ⟨rb, 0, none⟩), .int .u64 d] w (RdD w rb hb (tZ, (k, 1))) := by
  obtain ⟨p, hp⟩ := Int.eq_ofNat_of_zero_le (num_nn h0 hr)
  have hlt := hbl.lt
  have hbb := hm.ar.bytes
  have HPC : Hid (∀ x ∈ partsP H d, 0 ≤ x ∧ x < 18446744073709551616 ∧ right x = true) := parts_cell ho hbb d
  have hfew := parts_few ho d
  have HLow : Hid (∀ j, j ≤ (partsP H d).length → ((rdL (rd H f) ((partsP H d).take j) ([], (k, 0))).1.length = j ∧ ((rdL (rd H f) ((partsP H d).take j) ([], (k, 0))).2.2 = 0 → 0 ≤ (rdL (rd H f) ((partsP H d).take j) ([], (k, 0))).2.1) ∧ -2 - 1002 * (f : Int) - (j : Int) ≤ (rdL (rd H f) ((partsP H d).take j) ([], (k, 0))).2.1 ∧ (rdL (rd H f) ((partsP H d).take j) ([], (k, 0))).2.1 ≤ k)) := fun j hj =>
    rdL_low (rd_low ho f) k hk0 hkf j _ (by rw [List.length_take]; omega)
  have HHm : Hid (∀ W, Keeps w W [rb] → Hm W base hb ag ah vb AA FA TA MA ca nt ct nm cm cf H tr mk room) := fun W kk => hm.keep kk (fun b hb' => by simp at hb'; subst hb'; exact hout)
  have HOut := Lib.hid hout
  have hK0 : Keeps w ((w.alloc (.cells #[.int .i64 0, .int .i64 0, .string ⟨#[]⟩, .slice none 0 0] 34)).alloc (.cells #[.int .i64 3, .int .i64 0, .string ⟨#[]⟩, .slice none 0 0] 34)) [] := ((Keeps.refl w []).alloc _).alloc _
  have hG0 : Blk ((w.alloc (.cells #[.int .i64 0, .int .i64 0, .string ⟨#[]⟩, .slice none 0 0] 34)).alloc (.cells #[.int .i64 3, .int .i64 0, .string ⟨#[]⟩, .slice none 0 0] 34)) w.heap.size 34 #[.int .i64 0, .int .i64 0, .string ⟨#[]⟩, .slice none 0 0] := (Blk.new _ _ _).alloc _
  have hT0 : Blk ((w.alloc (.cells #[.int .i64 0, .int .i64 0, .string ⟨#[]⟩, .slice none 0 0] 34)).alloc (.cells #[.int .i64 3, .int .i64 0, .string ⟨#[]⟩, .slice none 0 0] 34)) (w.heap.size + 1) 34 #[.int .i64 3, .int .i64 0, .string ⟨#[]⟩, .slice none 0 0] := Blk.newAt _ _ (by simp)
  have HK0 := Lib.hid hK0
  have HGB0 := Lib.hid hG0
  have HT0 := Lib.hid hT0
  have HB0 := Lib.hid (hbl.keep hK0 (by simp))
  have HO := Lib.hid ho
  have HKd := Lib.hid (fun W => kind_any d W h0 h1)
  rw [hk] at HKd
  obtain ⟨m, hmm⟩ : ∃ m, (partsP H d).length = m := ⟨_, rfl⟩
  have HM := Lib.hid hmm
  have HPa := Lib.hid (parts_any (HHm.out _ (hK0.to_ _)) ho d h0 h1 hr)
  unfold RowD at HPa
  rw [hmm] at HPa HLow hfew
  have HNu := Lib.hid (fun W => number_any d W h0 h1)
  rw [hp] at HNu
  have HG0 : Hid (∀ W, Keeps w W [rb] → Calls Tryd.prog 44 #[.pointer (some ⟨ag, 0, none⟩), .int .i64 p] W fun e w' => e = .returned (.tuple #[.int .u64 ((H.cells[p]?).getD 0), .bool (H.cells[p]?).isSome]) ∧ W = w') := fun W kk => get_at (HHm.out W kk).ar p
  generalize (H.cells[p]?).isSome = bx at HG0
  generalize (H.cells[p]?).getD 0 = F at HG0
  rw [hnil] at hmm
  subst hmm
  clear hm hk hbb hK0 hG0 hT0 hbl hout ho h0 h1 hr hnil HLow hfew
  go_enter Tryd.func65, Tryd.ntmps65
  go_upto_region 2 with fail
  generalize ((w.alloc (.cells #[.int .i64 0, .int .i64 0, .string ⟨#[]⟩, .slice none 0 0] 34)).alloc (.cells #[.int .i64 3, .int .i64 0, .string ⟨#[]⟩, .slice none 0 0] 34)) = w0 at HK0 HGB0 HT0 HB0 HPa ⊢
  have x0 := HB0.out.cell 0
  go_wp2_with fail
  refine HPa.out.mono ?_
  rintro e w1 ⟨A, c1, rfl, hown, k1⟩
  have HOw := Lib.hid hown
  have HK1 := Lib.hid (HK0.out.trans k1)
  have HB1 := Lib.hid (HB0.out.keep k1 (by simp))
  have HG1 := Lib.hid (HGB0.out.keep k1 (by simp))
  have HT1 := Lib.hid (HT0.out.keep k1 (by simp))
  have HZ := Lib.hid HK0.out.size
  clear hown k1 x0 HPa
  go_wp2_with fail
  refine (HKd.out _).mono ?_
  rintro e w2 ⟨rfl, rfl⟩
  have HG : Hid (∀ W, Keeps w1 W [] → _) := fun W kk => HG0.out W ((HK1.out.trans kk).to_ _)
  have HFa := Lib.hid (fun W (kk : Keeps w1 W []) => fail_any (HB1.out.keep kk (by simp)) 1)
  go_upto_region 4 with fail
  have HS4 : Hid (∀ W, Keeps w1 W [] → (W.cell? ⟨rb, 0, none⟩ = some (.pointer (some ⟨hb, 0, none⟩)) ∧ W.cell? ⟨hb, 0, none⟩ = some (.pointer (some ⟨ag, 0, none⟩)))) := fun W kk =>
    ⟨(HB1.out.keep kk (by simp)).cell 0, (HHm.out W ((HK1.out.trans kk).to_ _)).blk.cell 0⟩
  refine wp_region_th (fun W' => W'.cell? ⟨rb, 0, none⟩ = some (.pointer (some ⟨hb, 0, none⟩)) ∧ W'.cell? ⟨hb, 0, none⟩ = some (.pointer (some ⟨ag, 0, none⟩))) 13 [12] [(0, true), (1, true), (2, true), (3, true), (4, true), (5, true), (6, true), (7, true), (8, false), (9, false), (10, true), (11, true), (12, true), (13, false), (14, false)] (by kernel_rfl) (by kernel_rfl) (HS4.out _ (Keeps.refl _ _).drew) (fun hHeld => ?_)
  (repeat (first | (refine wpTh_take (v := ?_) rfl (by rfl) (by assumption) ?_ (by rfl) ?_; rotate_left; (focus (intro w' hSw; (try dsimp only at hSw); go_simp; (try with_reducible rfl); done)); simp only [Act.put, List.setIfInBounds_toArray, List.set_cons_zero, List.set_cons_succ]) | (refine wpTh_pure (v := ?_) rfl (by rfl) (by assumption) ?_ (by rfl) ?_; rotate_left; (focus (intro w'; go_simp; (try with_reducible rfl); done)); simp only [Act.put, List.setIfInBounds_toArray, List.set_cons_zero, List.set_cons_succ])))
  refine wpTh_go rfl (fun K hK => ?_)
  go_simp
  refine (HNu.out _).mono ?_
  rintro e w3 ⟨rfl, rfl⟩
  refine hK.out _ _ ?_ ?_
  · exact HS4.out _ (Keeps.refl _ _).drew
  (clear hHeld; intro hHeld; clear hK K; (try simp only [Act.put, List.setIfInBounds_toArray, List.set_cons_zero, List.set_cons_succ]))
  (repeat (first | (refine wpTh_take (v := ?_) rfl (by rfl) (by assumption) ?_ (by rfl) ?_; rotate_left; (focus (intro w' hSw; (try dsimp only at hSw); go_simp; (try with_reducible rfl); done)); simp only [Act.put, List.setIfInBounds_toArray, List.set_cons_zero, List.set_cons_succ]) | (refine wpTh_pure (v := ?_) rfl (by rfl) (by assumption) ?_ (by rfl) ?_; rotate_left; (focus (intro w'; go_simp; (try with_reducible rfl); done)); simp only [Act.put, List.setIfInBounds_toArray, List.set_cons_zero, List.set_cons_succ])))
  refine wpTh_go rfl (fun K hK => ?_)
  go_simp
  refine (HG.out _ (Keeps.refl _ _).drew).mono ?_
  rintro e w4 ⟨rfl, rfl⟩
  refine hK.out _ _ ?_ ?_
  · exact HS4.out _ (Keeps.refl _ _).drew
  (clear hHeld; intro hHeld; clear hK K; (try simp only [Act.put, List.setIfInBounds_toArray, List.set_cons_zero, List.set_cons_succ]))
  (repeat (first | (refine wpTh_take (v := ?_) rfl (by rfl) (by assumption) ?_ (by rfl) ?_; rotate_left; (focus (intro w' hSw; (try dsimp only at hSw); go_simp; (try with_reducible rfl); done)); simp only [Act.put, List.setIfInBounds_toArray, List.set_cons_zero, List.set_cons_succ]) | (refine wpTh_pure (v := ?_) rfl (by rfl) (by assumption) ?_ (by rfl) ?_; rotate_left; (focus (intro w'; go_simp; (try with_reducible rfl); done)); simp only [Act.put, List.setIfInBounds_toArray, List.set_cons_zero, List.set_cons_succ])))
  refine wpTh_tail rfl (by decide) (fun K hK => ?_)
  go_simp
  refine hK.out _ _ ?_; clear hK K; (try simp only [Act.put, List.setIfInBounds_toArray, List.set_cons_zero, List.set_cons_succ])
  refine wpTh_last rfl (by decide) (fun K hK => ?_)
  go_simp
  refine hK.out _ _ (NoPanic.normal ?_)
  clear hK K hHeld
  go_wp2_with fail
  refine (HFa.out _ (Keeps.refl _ _).drew).mono ?_
  rintro e w3 ⟨u, rfl, hu, hb3, k3⟩
  obtain ⟨k_, n_, s_, A_, m_, c_⟩ := u
  have hK3 := ((HK1.out.to_ [rb]).trans ((Keeps.refl w1 [rb]).drew)).trans k3
  have HG3 := (HG1.out.drew).keep k3 (by simp; omega)
  have HD : Hid (∀ v0 v1 v2 v3, RdD w rb hb (tZ, (k, 1)) (.returned (tvV ⟨k_, n_, s_, A_, m_, c_⟩)) ((((w3.setCell ⟨w.heap.size, 0, none⟩ v0).setCell ⟨w.heap.size, 1, none⟩ v1).setCell ⟨w.heap.size, 2, none⟩ v2).setCell ⟨w.heap.size, 3, none⟩ v3)) := fun v0 v1 v2 v3 =>
    RdD.up4 hu hb3 hK3 (Nat.le_refl _) HG1.out.lt hlt v0 v1 v2 v3
  unfold tvV
  have r0 := HG3.cell 0
  have r1 := HG3.cell 1
  have r2 := HG3.cell 2
  have r3 := HG3.cell 3
  have f0 := HG3.frozen 0
  have f1 := HG3.frozen 1
  have f2 := HG3.frozen 2
  have f3 := HG3.frozen 3
  clear hu hb3 k3 hK3 HG3
  go_wp2_with fail
  exact bodyPost_ret (v := .agg #[.int .i64 k_, .int .i64 n_, .string s_, .slice A_ m_ c_]) (by simp [results, Tryd.results65, go_sem, *]) rfl (HD.out _ _ _ _)
set_option maxRecDepth 100000 in
set_option maxHeartbeats 3200000 in
theorem cpd1_any (ho : HOk H) {f : Nat} (hf : f ≤ 100000) (hC : CallRd base hb ag ah vb AA FA TA MA ca nt ct nm cm cf H tr mk room f) {w : World} {rb : Nat} {d k : Int} (hm : Hm w base hb ag ah vb AA FA TA MA ca nt ct nm cm cf H tr mk room) (hout : rb ∉ hpL hb ag ah vb AA FA TA MA) (hbl : Blk w rb 74 #[.pointer (some ⟨hb, 0, none⟩), .int .i64 k, .int .i64 0]) (hk0 : 0 ≤ k) (hkf : k < f) (h0 : 0 ≤ d) (h1 : d < 18446744073709551616) (hr : right d = true) (hk : kindOf d = 1) (hne : partsP H d ≠ []) : Calls Tryd.prog 65 #[.pointer (some ⟨rb, 0, none⟩), .int .u64 d] w (RdD w rb hb (.mk 2 0 (nameP H d) (rdL (rd H f) (partsP H d) ([], (k, 0))).1, (rdL (rd H f) (partsP H d) ([], (k, 0))).2)) := by
  obtain ⟨p, hp⟩ := Int.eq_ofNat_of_zero_le (num_nn h0 hr)
  have hpp : (numOf d).toNat = p := by omega
  obtain ⟨x, hfx⟩ : ∃ x, funP H d = some x := by
    cases hf0 : funP H d with
    | some x => exact ⟨x, rfl⟩
    | none => exact absurd (by unfold partsP; rw [if_pos hk, hf0]) hne
  have hnm : nameP H d = x.1 := by unfold nameP; rw [hfx]
  obtain ⟨F, hF, hkF, hxF⟩ : ∃ F, H.cells[p]? = some F ∧ kindOf F = 4 ∧ H.funs[(numOf F).toNat]? = some x := by
    unfold funP at hfx
    rw [hpp] at hfx
    cases hF : H.cells[p]? with
    | none => rw [hF] at hfx; cases hfx
    | some F =>
      rw [hF] at hfx
      simp only at hfx
      split at hfx
      · rename_i h4; exact ⟨F, rfl, h4, hfx⟩
      · cases hfx
  have hbF := hm.ar.bytes F (List.mem_of_getElem? hF)
  obtain ⟨i, hi⟩ := Int.eq_ofNat_of_zero_le (num_nn hbF.1 (ho.right F (List.mem_of_getElem? hF)))
  have hii : (numOf F).toNat = i := by omega
  rw [hii] at hxF
  have HNF := Lib.hid (fun W => number_any F W hbF.1 hbF.2)
  rw [hi] at HNF
  obtain ⟨fb, foff, hFA, hfb, hff⟩ := (Rd.of_own hm.funs).field funE_len hxF (by omega)
  have hfbn : fb ∈ hpL hb ag ah vb AA FA TA MA := by rw [hFA]; simp [hpL, ownL, Value.ownBlock]
  have HS6 : Hid (∀ W, Keeps w W [rb] → W.cell? ⟨hb, 2, none⟩ = some (.slice (some ⟨fb, foff, none⟩) H.funs.length cf) ∧ W.cell? ⟨fb, foff + i * 2, none⟩ = some (.string x.1)) := fun W kk =>
    ⟨by rw [← hFA]; exact (hm.keep kk (fun b hb' => by simp at hb'; subst hb'; exact hout)).blk.cell 2, (kk.cell (p := ⟨fb, foff + i * 2, none⟩) hfb (fun hm' => by simp at hm'; subst hm'; exact hout hfbn)).trans (hff 0 _ rfl)⟩
  have HIL : Hid ((0 : Int) ≤ (i : Int) ∧ (i : Int) < (H.funs.length : Int) ∧ i < H.funs.length) := ⟨Int.natCast_nonneg _, by have := (List.getElem?_eq_some_iff.1 hxF).1; omega, (List.getElem?_eq_some_iff.1 hxF).1⟩
  have hsz : x.1.size ≤ 9223372036854775807 := ho.sizes.2 x (List.mem_of_getElem? hxF)
  have HSz := Lib.hid hsz
  have hpos : 0 < (partsP H d).length := List.length_pos_iff.2 hne
  rw [hnm]
  have hlt := hbl.lt
  have hbb := hm.ar.bytes
  have HPC : Hid (∀ x ∈ partsP H d, 0 ≤ x ∧ x < 18446744073709551616 ∧ right x = true) := parts_cell ho hbb d
  have hfew := parts_few ho d
  have HLow : Hid (∀ j, j ≤ (partsP H d).length → ((rdL (rd H f) ((partsP H d).take j) ([], (k, 0))).1.length = j ∧ ((rdL (rd H f) ((partsP H d).take j) ([], (k, 0))).2.2 = 0 → 0 ≤ (rdL (rd H f) ((partsP H d).take j) ([], (k, 0))).2.1) ∧ -2 - 1002 * (f : Int) - (j : Int) ≤ (rdL (rd H f) ((partsP H d).take j) ([], (k, 0))).2.1 ∧ (rdL (rd H f) ((partsP H d).take j) ([], (k, 0))).2.1 ≤ k)) := fun j hj =>
    rdL_low (rd_low ho f) k hk0 hkf j _ (by rw [List.length_take]; omega)
  have HHm : Hid (∀ W, Keeps w W [rb] → Hm W base hb ag ah vb AA FA TA MA ca nt ct nm cm cf H tr mk room) := fun W kk => hm.keep kk (fun b hb' => by simp at hb'; subst hb'; exact hout)
  have HOut := Lib.hid hout
  have hK0 : Keeps w ((w.alloc (.cells #[.int .i64 0, .int .i64 0, .string ⟨#[]⟩, .slice none 0 0] 34)).alloc (.cells #[.int .i64 3, .int .i64 0, .string ⟨#[]⟩, .slice none 0 0] 34)) [] := ((Keeps.refl w []).alloc _).alloc _
  have hG0 : Blk ((w.alloc (.cells #[.int .i64 0, .int .i64 0, .string ⟨#[]⟩, .slice none 0 0] 34)).alloc (.cells #[.int .i64 3, .int .i64 0, .string ⟨#[]⟩, .slice none 0 0] 34)) w.heap.size 34 #[.int .i64 0, .int .i64 0, .string ⟨#[]⟩, .slice none 0 0] := (Blk.new _ _ _).alloc _
  have hT0 : Blk ((w.alloc (.cells #[.int .i64 0, .int .i64 0, .string ⟨#[]⟩, .slice none 0 0] 34)).alloc (.cells #[.int .i64 3, .int .i64 0, .string ⟨#[]⟩, .slice none 0 0] 34)) (w.heap.size + 1) 34 #[.int .i64 3, .int .i64 0, .string ⟨#[]⟩, .slice none 0 0] := Blk.newAt _ _ (by simp)
  have HK0 := Lib.hid hK0
  have HGB0 := Lib.hid hG0
  have HT0 := Lib.hid hT0
  have HB0 := Lib.hid (hbl.keep hK0 (by simp))
  have HO := Lib.hid ho
  have HKd := Lib.hid (fun W => kind_any d W h0 h1)
  rw [hk] at HKd
  obtain ⟨m, hmm⟩ : ∃ m, (partsP H d).length = m := ⟨_, rfl⟩
  have HM := Lib.hid hmm
  have HPa := Lib.hid (parts_any (HHm.out _ (hK0.to_ _)) ho d h0 h1 hr)
  unfold RowD at HPa
  rw [hmm] at HPa HLow hfew
  have HNu := Lib.hid (fun W => number_any d W h0 h1)
  rw [hp] at HNu
  have HG0 : Hid (∀ W, Keeps w W [rb] → Calls Tryd.prog 44 #[.pointer (some ⟨ag, 0, none⟩), .int .i64 p] W fun e w' => e = .returned (.tuple #[.int .u64 ((H.cells[p]?).getD 0), .bool (H.cells[p]?).isSome]) ∧ W = w') := fun W kk => get_at (HHm.out W kk).ar p
  generalize (H.cells[p]?).isSome = bx at HG0
  rw [hF, Option.getD_some] at HG0
  rw [hmm] at hpos
  have e5 : ((m : Int) == 0) = false := by rw [beq_eq_false_iff_ne]; omega
  have e6 : (m == 0) = false := by rw [beq_eq_false_iff_ne]; omega
  clear hm hk hbb hK0 hG0 hT0 hbl hout ho hmm h0 h1 hr hfx hnm hF hkF hxF hbF hff hfbn hsz hpp hp hi hii hne hFA
  go_enter Tryd.func65, Tryd.ntmps65
  go_upto_region 2 with fail
  generalize ((w.alloc (.cells #[.int .i64 0, .int .i64 0, .string ⟨#[]⟩, .slice none 0 0] 34)).alloc (.cells #[.int .i64 3, .int .i64 0, .string ⟨#[]⟩, .slice none 0 0] 34)) = w0 at HK0 HGB0 HT0 HB0 HPa ⊢
  have x0 := HB0.out.cell 0
  go_wp2_with fail
  refine HPa.out.mono ?_
  rintro e w1 ⟨A, c1, rfl, hown, k1⟩
  have HOw := Lib.hid hown
  have HK1 := Lib.hid (HK0.out.trans k1)
  have HB1 := Lib.hid (HB0.out.keep k1 (by simp))
  have HG1 := Lib.hid (HGB0.out.keep k1 (by simp))
  have HT1 := Lib.hid (HT0.out.keep k1 (by simp))
  have HZ := Lib.hid HK0.out.size
  clear hown k1 x0 HPa
  go_wp2_with fail
  refine (HKd.out _).mono ?_
  rintro e w2 ⟨rfl, rfl⟩
  have HG : Hid (∀ W, Keeps w1 W [] → _) := fun W kk => HG0.out W ((HK1.out.trans kk).to_ _)
  go_upto_region 4 with fail
  have HS4 : Hid (∀ W, Keeps w1 W [] → (W.cell? ⟨rb, 0, none⟩ = some (.pointer (some ⟨hb, 0, none⟩)) ∧ W.cell? ⟨hb, 0, none⟩ = some (.pointer (some ⟨ag, 0, none⟩)))) := fun W kk =>
    ⟨(HB1.out.keep kk (by simp)).cell 0, (HHm.out W ((HK1.out.trans kk).to_ _)).blk.cell 0⟩
  refine wp_region_th (fun W' => W'.cell? ⟨rb, 0, none⟩ = some (.pointer (some ⟨hb, 0, none⟩)) ∧ W'.cell? ⟨hb, 0, none⟩ = some (.pointer (some ⟨ag, 0, none⟩))) 13 [12] [(0, true), (1, true), (2, true), (3, true), (4, true), (5, true), (6, true), (7, true), (8, false), (9, false), (10, true), (11, true), (12, true), (13, false), (14, false)] (by kernel_rfl) (by kernel_rfl) (HS4.out _ (Keeps.refl _ _).drew) (fun hHeld => ?_)
  (repeat (first | (refine wpTh_take (v := ?_) rfl (by rfl) (by assumption) ?_ (by rfl) ?_; rotate_left; (focus (intro w' hSw; (try dsimp only at hSw); go_simp; (try with_reducible rfl); done)); simp only [Act.put, List.setIfInBounds_toArray, List.set_cons_zero, List.set_cons_succ]) | (refine wpTh_pure (v := ?_) rfl (by rfl) (by assumption) ?_ (by rfl) ?_; rotate_left; (focus (intro w'; go_simp; (try with_reducible rfl); done)); simp only [Act.put, List.setIfInBounds_toArray, List.set_cons_zero, List.set_cons_succ])))
  refine wpTh_go rfl (fun K hK => ?_)
  go_simp
  refine (HNu.out _).mono ?_
  rintro e w3 ⟨rfl, rfl⟩
  refine hK.out _ _ ?_ ?_
  · exact HS4.out _ (Keeps.refl _ _).drew
  (clear hHeld; intro hHeld; clear hK K; (try simp only [Act.put, List.setIfInBounds_toArray, List.set_cons_zero, List.set_cons_succ]))
  (repeat (first | (refine wpTh_take (v := ?_) rfl (by rfl) (by assumption) ?_ (by rfl) ?_; rotate_left; (focus (intro w' hSw; (try dsimp only at hSw); go_simp; (try with_reducible rfl); done)); simp only [Act.put, List.setIfInBounds_toArray, List.set_cons_zero, List.set_cons_succ]) | (refine wpTh_pure (v := ?_) rfl (by rfl) (by assumption) ?_ (by rfl) ?_; rotate_left; (focus (intro w'; go_simp; (try with_reducible rfl); done)); simp only [Act.put, List.setIfInBounds_toArray, List.set_cons_zero, List.set_cons_succ])))
  refine wpTh_go rfl (fun K hK => ?_)
  go_simp
  refine (HG.out _ (Keeps.refl _ _).drew).mono ?_
  rintro e w4 ⟨rfl, rfl⟩
  refine hK.out _ _ ?_ ?_
  · exact HS4.out _ (Keeps.refl _ _).drew
  (clear hHeld; intro hHeld; clear hK K; (try simp only [Act.put, List.setIfInBounds_toArray, List.set_cons_zero, List.set_cons_succ]))
  (repeat (first | (refine wpTh_take (v := ?_) rfl (by rfl) (by assumption) ?_ (by rfl) ?_; rotate_left; (focus (intro w' hSw; (try dsimp only at hSw); go_simp; (try with_reducible rfl); done)); simp only [Act.put, List.setIfInBounds_toArray, List.set_cons_zero, List.set_cons_succ]) | (refine wpTh_pure (v := ?_) rfl (by rfl) (by assumption) ?_ (by rfl) ?_; rotate_left; (focus (intro w'; go_simp; (try with_reducible rfl); done)); simp only [Act.put, List.setIfInBounds_toArray, List.set_cons_zero, List.set_cons_succ])))
  refine wpTh_tail rfl (by decide) (fun K hK => ?_)
  go_simp
  refine hK.out _ _ ?_; clear hK K; (try simp only [Act.put, List.setIfInBounds_toArray, List.set_cons_zero, List.set_cons_succ])
  refine wpTh_last rfl (by decide) (fun K hK => ?_)
  go_simp
  refine hK.out _ _ (NoPanic.normal ?_)
  clear hK K hHeld
  go_upto_region 7 with fail
  clear e5 e6
  obtain ⟨hi0, hil2, hil⟩ := HIL.out
  have HW7 : Hid (∀ W', Keeps w1 W' [] → (W'.cell? ⟨rb, 0, none⟩ = some (.pointer (some ⟨hb, 0, none⟩)) ∧ W'.cell? ⟨hb, 2, none⟩ = some (.slice (some ⟨fb, foff, none⟩) H.funs.length cf) ∧ W'.cell? ⟨fb, foff + i * 2, none⟩ = some (.string x.1)) ∧ (W'.cell? ⟨w.heap.size + 1, 0, none⟩ = some (.int .i64 3) ∧ W'.cell? ⟨w.heap.size + 1, 1, none⟩ = some (.int .i64 0) ∧ W'.cell? ⟨w.heap.size + 1, 2, none⟩ = some (.string ⟨#[]⟩) ∧ W'.cell? ⟨w.heap.size + 1, 3, none⟩ = some (.slice none 0 0)) ∧ (W'.frozen? ⟨w.heap.size + 1, 0, none⟩ = false ∧ W'.frozen? ⟨w.heap.size + 1, 1, none⟩ = false ∧ W'.frozen? ⟨w.heap.size + 1, 2, none⟩ = false ∧ W'.frozen? ⟨w.heap.size + 1, 3, none⟩ = false)) := fun W' kk =>
    have kt := HT1.out.keep kk (by simp)
    have k6 := HS6.out W' ((HK1.out.trans kk).to_ _)
    ⟨⟨(HB1.out.keep kk (by simp)).cell 0, k6.1, k6.2⟩, ⟨kt.cell 0, kt.cell 1, kt.cell 2, kt.cell 3⟩, ⟨kt.frozen 0, kt.frozen 1, kt.frozen 2, kt.frozen 3⟩⟩
  have HT2 : Hid (Blk ((set4 w1 (w.heap.size + 1) (.int .i64 2) (.int .i64 0) (.string x.1) (.slice none 0 0)).drew.drew) (w.heap.size + 1) 34 #[.int .i64 2, .int .i64 0, .string x.1, .slice none 0 0]) := (HT1.out.put4 _ _ _ _).drew.drew
  have HK2 : Hid (Keeps w1 ((set4 w1 (w.heap.size + 1) (.int .i64 2) (.int .i64 0) (.string x.1) (.slice none 0 0)).drew.drew) [w.heap.size + 1]) := ((Keeps.refl w1 [w.heap.size + 1]).put4 (.inl (by simp)) _ _ _ _).drew.drew
  have HKw : Hid (Keeps w ((set4 w1 (w.heap.size + 1) (.int .i64 2) (.int .i64 0) (.string x.1) (.slice none 0 0)).drew.drew) [rb]) := ((HK1.out.to_ [rb]).put4 (.inr (by omega)) _ _ _ _).drew.drew
  obtain ⟨wl, hwl⟩ : ∃ wl, (set4 w1 (w.heap.size + 1) (.int .i64 2) (.int .i64 0) (.string x.1) (.slice none 0 0)).drew.drew = wl := ⟨_, rfl⟩
  rw [hwl] at HT2 HK2 HKw
  have HWL := Lib.hid hwl
  clear hwl
  refine wp_region_tx (fun W' => (W'.cell? ⟨rb, 0, none⟩ = some (.pointer (some ⟨hb, 0, none⟩)) ∧ W'.cell? ⟨hb, 2, none⟩ = some (.slice (some ⟨fb, foff, none⟩) H.funs.length cf) ∧ W'.cell? ⟨fb, foff + i * 2, none⟩ = some (.string x.1)) ∧ (W'.cell? ⟨w.heap.size + 1, 0, none⟩ = some (.int .i64 3) ∧ W'.cell? ⟨w.heap.size + 1, 1, none⟩ = some (.int .i64 0) ∧ W'.cell? ⟨w.heap.size + 1, 2, none⟩ = some (.string ⟨#[]⟩) ∧ W'.cell? ⟨w.heap.size + 1, 3, none⟩ = some (.slice none 0 0)) ∧ (W'.frozen? ⟨w.heap.size + 1, 0, none⟩ = false ∧ W'.frozen? ⟨w.heap.size + 1, 1, none⟩ = false ∧ W'.frozen? ⟨w.heap.size + 1, 2, none⟩ = false ∧ W'.frozen? ⟨w.heap.size + 1, 3, none⟩ = false)) [(0, true), (1, true), (2, true), (3, true), (4, true), (5, true), (6, true), (7, true), (8, true), (9, false), (10, true), (11, true), (12, true), (13, true), (14, false)] (by kernel_rfl) (by kernel_rfl) (HW7.out _ (Keeps.refl _ _).drew.drew) (fun hHeld => ?_)
  obtain ⟨⟨q0, q1, q2⟩, ⟨q3, q4, q5, q6⟩, q7, q8, q9, q10⟩ := HW7.out w1 (Keeps.refl _ _)
  (first | (refine wpTx_take (v := ?_) rfl (by assumption) ?_ (by rfl) ?_; rotate_left; (focus (intro w' hSw; (try dsimp only at hSw); go_simp; (try with_reducible rfl); done)); simp only [Act.put, List.setIfInBounds_toArray, List.set_cons_zero, List.set_cons_succ]) | (refine wpTx_skip rfl (by assumption) (by rfl) ?_; simp only [Act.put, List.setIfInBounds_toArray, List.set_cons_zero, List.set_cons_succ]))
  (first | (refine wpTx_take (v := ?_) rfl (by assumption) ?_ (by rfl) ?_; rotate_left; (focus (intro w' hSw; (try dsimp only at hSw); go_simp; (try with_reducible rfl); done)); simp only [Act.put, List.setIfInBounds_toArray, List.set_cons_zero, List.set_cons_succ]) | (refine wpTx_skip rfl (by assumption) (by rfl) ?_; simp only [Act.put, List.setIfInBounds_toArray, List.set_cons_zero, List.set_cons_succ]))
  (first | (refine wpTx_take (v := ?_) rfl (by assumption) ?_ (by rfl) ?_; rotate_left; (focus (intro w' hSw; (try dsimp only at hSw); go_simp; (try with_reducible rfl); done)); simp only [Act.put, List.setIfInBounds_toArray, List.set_cons_zero, List.set_cons_succ]) | (refine wpTx_skip rfl (by assumption) (by rfl) ?_; simp only [Act.put, List.setIfInBounds_toArray, List.set_cons_zero, List.set_cons_succ]))
  (first | (refine wpTx_take (v := ?_) rfl (by assumption) ?_ (by rfl) ?_; rotate_left; (focus (intro w' hSw; (try dsimp only at hSw); go_simp; (try with_reducible rfl); done)); simp only [Act.put, List.setIfInBounds_toArray, List.set_cons_zero, List.set_cons_succ]) | (refine wpTx_skip rfl (by assumption) (by rfl) ?_; simp only [Act.put, List.setIfInBounds_toArray, List.set_cons_zero, List.set_cons_succ]))
  (first | (refine wpTx_take (v := ?_) rfl (by assumption) ?_ (by rfl) ?_; rotate_left; (focus (intro w' hSw; (try dsimp only at hSw); go_simp; (try with_reducible rfl); done)); simp only [Act.put, List.setIfInBounds_toArray, List.set_cons_zero, List.set_cons_succ]) | (refine wpTx_skip rfl (by assumption) (by rfl) ?_; simp only [Act.put, List.setIfInBounds_toArray, List.set_cons_zero, List.set_cons_succ]))
  (first | (refine wpTx_take (v := ?_) rfl (by assumption) ?_ (by rfl) ?_; rotate_left; (focus (intro w' hSw; (try dsimp only at hSw); go_simp; (try with_reducible rfl); done)); simp only [Act.put, List.setIfInBounds_toArray, List.set_cons_zero, List.set_cons_succ]) | (refine wpTx_skip rfl (by assumption) (by rfl) ?_; simp only [Act.put, List.setIfInBounds_toArray, List.set_cons_zero, List.set_cons_succ]))
  (first | (refine wpTx_take (v := ?_) rfl (by assumption) ?_ (by rfl) ?_; rotate_left; (focus (intro w' hSw; (try dsimp only at hSw); go_simp; (try with_reducible rfl); done)); simp only [Act.put, List.setIfInBounds_toArray, List.set_cons_zero, List.set_cons_succ]) | (refine wpTx_skip rfl (by assumption) (by rfl) ?_; simp only [Act.put, List.setIfInBounds_toArray, List.set_cons_zero, List.set_cons_succ]))
  (first | (refine wpTx_take (v := ?_) rfl (by assumption) ?_ (by rfl) ?_; rotate_left; (focus (intro w' hSw; (try dsimp only at hSw); go_simp; (try with_reducible rfl); done)); simp only [Act.put, List.setIfInBounds_toArray, List.set_cons_zero, List.set_cons_succ]) | (refine wpTx_skip rfl (by assumption) (by rfl) ?_; simp only [Act.put, List.setIfInBounds_toArray, List.set_cons_zero, List.set_cons_succ]))
  (first | (refine wpTx_take (v := ?_) rfl (by assumption) ?_ (by rfl) ?_; rotate_left; (focus (intro w' hSw; (try dsimp only at hSw); go_simp; (try with_reducible rfl); done)); simp only [Act.put, List.setIfInBounds_toArray, List.set_cons_zero, List.set_cons_succ]) | (refine wpTx_skip rfl (by assumption) (by rfl) ?_; simp only [Act.put, List.setIfInBounds_toArray, List.set_cons_zero, List.set_cons_succ]))
  refine wpTx_go rfl (fun K hK => ?_)
  go_simp
  refine (HNF.out _).mono ?_
  rintro e w3 ⟨rfl, rfl⟩
  refine hK.out _ _ ?_ ?_
  · exact HW7.out _ (Keeps.refl _ _).drew.drew
  (clear hHeld; intro hHeld; clear hK K; (try simp only [Act.put, List.setIfInBounds_toArray, List.set_cons_zero, List.set_cons_succ]))
  (first | (refine wpTx_take (v := ?_) rfl (by assumption) ?_ (by rfl) ?_; rotate_left; (focus (intro w' hSw; (try dsimp only at hSw); go_simp; (try with_reducible rfl); done)); simp only [Act.put, List.setIfInBounds_toArray, List.set_cons_zero, List.set_cons_succ]) | (refine wpTx_skip rfl (by assumption) (by rfl) ?_; simp only [Act.put, List.setIfInBounds_toArray, List.set_cons_zero, List.set_cons_succ]))
  (first | (refine wpTx_take (v := ?_) rfl (by assumption) ?_ (by rfl) ?_; rotate_left; (focus (intro w' hSw; (try dsimp only at hSw); go_simp; (try with_reducible rfl); done)); simp only [Act.put, List.setIfInBounds_toArray, List.set_cons_zero, List.set_cons_succ]) | (refine wpTx_skip rfl (by assumption) (by rfl) ?_; simp only [Act.put, List.setIfInBounds_toArray, List.set_cons_zero, List.set_cons_succ]))
  (first | (refine wpTx_take (v := ?_) rfl (by assumption) ?_ (by rfl) ?_; rotate_left; (focus (intro w' hSw; (try dsimp only at hSw); go_simp; (try with_reducible rfl); done)); simp only [Act.put, List.setIfInBounds_toArray, List.set_cons_zero, List.set_cons_succ]) | (refine wpTx_skip rfl (by assumption) (by rfl) ?_; simp only [Act.put, List.setIfInBounds_toArray, List.set_cons_zero, List.set_cons_succ]))
  (first | (refine wpTx_take (v := ?_) rfl (by assumption) ?_ (by rfl) ?_; rotate_left; (focus (intro w' hSw; (try dsimp only at hSw); go_simp; (try with_reducible rfl); done)); simp only [Act.put, List.setIfInBounds_toArray, List.set_cons_zero, List.set_cons_succ]) | (refine wpTx_skip rfl (by assumption) (by rfl) ?_; simp only [Act.put, List.setIfInBounds_toArray, List.set_cons_zero, List.set_cons_succ]))
  refine wpTx_last rfl (fun K hK => ?_)
  go_simp
  refine hK.out _ _ (NoPanic.normal ?_); clear hK K; (try simp only [Act.put, List.setIfInBounds_toArray, List.set_cons_zero, List.set_cons_succ])
  have hwl := HWL.out
  unfold set4 at hwl
  rw [hwl]
  clear hHeld hwl q0 q1 q2 q3 q4 q5 q6 q7 q8 q9 q10
  obtain ⟨pb, cur, rfl, hpb, hPB, hcur⟩ := row_blk HOw.out hpos
  have hw0 := HZ.out
  have hpbn : w.heap.size + 1 < w0.heap.size := HT0.out.lt
  have HST : Hid (TSt 34 (fun b => w.heap.size ≤ b) w wl [rb] [(w.heap.size, 34, #[.int .i64 0, .int .i64 0, .string ⟨#[]⟩, .slice none 0 0]), (pb, 28, cur)] (w.heap.size + 1) 2 0 x.1 [] [] none 0 0) := TSt.start (by
    intro y hy
    simp only [List.mem_cons, List.not_mem_nil, or_false] at hy
    rcases hy with rfl | rfl
    · exact ⟨HG1.out.keep HK2.out (by simp), by show w.heap.size ≠ _; omega⟩
    · exact ⟨hPB.keep HK2.out (by simp; omega), by show pb ≠ _; omega⟩) (HT2.out) (HKw.out) (by omega) (fun b h => h) HSz.out
  have HBl : Hid (Blk wl rb 74 #[.pointer (some ⟨hb, 0, none⟩), .int .i64 k, .int .i64 0]) := HB1.out.keep HK2.out (by simp; omega)
  have HRow : Hid (∀ (j : Nat) x, (partsP H d)[j]? = some x → cur[j]? = some (.int .u64 x)) := fun j x hx => hcur j _ (by rw [List.getElem?_map, hx]; rfl)
  have HFr : Hid (∀ y ∈ [(w.heap.size, 34, #[.int .i64 0, .int .i64 0, .string ⟨#[]⟩, .slice none 0 0]), (pb, 28, cur)], y.1 ∉ [rb]) := by
    intro y hy
    simp only [List.mem_cons, List.not_mem_nil, or_false] at hy ⊢
    rcases hy with rfl | rfl
    · show w.heap.size ≠ rb; omega
    · show pb ≠ rb; omega
  clear hcur hPB
  go_wp2_with fail
  have hcell : ∀ (j : Nat) (x : Int), (partsP H d)[j]? = some x → cur[j]? = some (Value.int .u64 x) := HRow.out
  go_loopw [10, 55] (fun x10 x55 wr => ∃ (j : Nat) (A2 : Option Addr) (c2 : Nat) (us : List TV), j ≤ m ∧ x55 = .int .i64 j ∧ TSt 34 (fun b => w.heap.size ≤ b) w wr [rb] [(w.heap.size, 34, #[.int .i64 0, .int .i64 0, .string ⟨#[]⟩, .slice none 0 0]), (pb, 28, cur)] (w.heap.size + 1) 2 0 x.1 (rdL (rd H f) ((partsP H d).take j) ([], (k, 0))).1 us A2 j c2 ∧ Blk wr rb 74 #[.pointer (some ⟨hb, 0, none⟩), .int .i64 (rdL (rd H f) ((partsP H d).take j) ([], (k, 0))).2.1, .int .i64 (rdL (rd H f) ((partsP H d).take j) ([], (k, 0))).2.2]) (fun _ i _ => m - (intOf i).toNat)
  case atStart => exact ⟨0, none, 0, [], Nat.zero_le _, rfl, by rw [List.take_zero]; exact HST.out, by rw [List.take_zero]; exact HBl.out⟩
  case round =>
    obtain ⟨j, A2, c2, us, hj, rfl, st, hbl⟩ := hrel
    have HS := Lib.hid st
    have HBL := Lib.hid hbl
    have e1 := (st.fix (pb, 28, cur) (by simp)).1.cell j
    clear st hbl
    by_cases hlt : j < m
    · obtain ⟨x, hx⟩ := at_of HM.out hlt
      rw [hcell j x hx] at e1
      have HX := Lib.hid hx
      obtain ⟨g1, g2, g3, g4⟩ := HLow.out j (by omega)
      obtain ⟨q, hq⟩ : ∃ q, rdL (rd H f) ((partsP H d).take j) ([], (k, 0)) = q := ⟨_, rfl⟩
      rw [hq] at g1 g2 g3 g4
      have HQ := Lib.hid hq
      rw [hq] at HS HBL
      have hpc := HPC.out x (List.mem_of_getElem? hx)
      have HC : Hid (∀ W, Keeps wr W [] → Calls Tryd.prog 32 #[.pointer (some ⟨rb, 0, none⟩), .int .u64 x] W (RdD W rb hb (rd H f x q.2))) := fun W kk =>
        hC W rb x q.2 (HHm.out _ (HS.out.keep.trans (kk.to_ _))) HOut.out (HBL.out.keep kk (by simp)) g2 (by omega) (by omega) hpc.1 hpc.2.1 hpc.2.2
      have HW : Hid (∀ W', Keeps wr W' (rb :: ownL (.slice A2 j c2)) → W'.frozen? ⟨w.heap.size + 1, 3, none⟩ = false ∧ W'.cell? ⟨w.heap.size + 1, 3, none⟩ = some (.slice A2 j c2)) := fun W' kk =>
        have hn : w.heap.size + 1 ∉ rb :: ownL (.slice A2 j c2) := by
          simp only [List.mem_cons, not_or]
          exact ⟨by omega, HS.out.low.2.1⟩
        ⟨(HS.out.out.keep kk hn).frozen 3, (HS.out.out.keep kk hn).cell 3⟩
      obtain ⟨q0, q1⟩ := HW.out wr (Keeps.refl _ _)
      have b0 : (0 : Int) ≤ (j : Int) := Int.natCast_nonneg _
      have b1 : (j : Int) < (m : Int) := by omega
      clear g1 g2 g3 g4 hpc hx hq hcell
      go_upto_region 11 with fail
      refine wp_region_tx (fun W' => W'.frozen? ⟨w.heap.size + 1, 3, none⟩ = false ∧ W'.cell? ⟨w.heap.size + 1, 3, none⟩ = some (.slice A2 j c2)) [(0, true), (1, true), (2, true), (3, true), (4, false), (5, false), (6, false), (7, true), (8, false)] (by kernel_rfl) (by kernel_rfl) (HW.out _ ((Keeps.refl _ _).drew)) (fun hHeld => ?_)
      (repeat (first | (refine wpTx_take (v := ?_) rfl (by assumption) ?_ (by rfl) ?_; rotate_left; (focus (intro w' hSw; (try dsimp only at hSw); go_simp; (try with_reducible rfl); done)); simp only [Act.put, List.setIfInBounds_toArray, List.set_cons_zero, List.set_cons_succ]) | (refine wpTx_skip rfl (by assumption) (by rfl) ?_; simp only [Act.put, List.setIfInBounds_toArray, List.set_cons_zero, List.set_cons_succ])))
      refine wpTx_go rfl (fun K hK => ?_)
      go_simp
      refine (HC.out _ (Keeps.refl _ _).drew).mono ?_
      rintro e w3 ⟨u, rfl, hu, hb3, k3⟩
      have HU : Hid (Tr w3 (fun b => wr.heap.size ≤ b) (rd H f x q.2).1 u) := hu
      have HB3 := Lib.hid hb3
      have HK3 : Hid (Keeps wr w3 [rb]) := Keeps.trans ((Keeps.refl wr [rb]).drew) k3
      unfold tvV
      clear hu hb3 k3
      refine hK.out _ _ ?_ ?_
      · exact HW.out _ (HK3.out.more (fun b _ hb => List.mem_cons.2 (.inl (by simpa using hb))))
      (clear hHeld; intro hHeld; clear hK K; (try simp only [Act.put, List.setIfInBounds_toArray, List.set_cons_zero, List.set_cons_succ]))
      refine wpTx_go rfl (fun K hK => ?_)
      go_simp
      refine hK.out _ _ ?_ ?_
      · exact HW.out _ ((HK3.out.alloc _).more (fun b _ hb => List.mem_cons.2 (.inl (by simpa using hb))))
      (clear hHeld; intro hHeld; clear hK K; (try simp only [Act.put, List.setIfInBounds_toArray, List.set_cons_zero, List.set_cons_succ]))
      refine wpTx_go rfl (fun K hK => ?_)
      have hst3 := HS.out.keepL HK3.out (by simp; omega) HFr.out (by simp; omega)
      have hfr := (HS.out.fresh HU.out).keep ((Keeps.refl w3 []).alloc (.cells (tvE u).toArray 34))
      have HST3 := Lib.hid hst3
      have HFR := Lib.hid hfr
      refine step_app _ el_pterm (by rfl) _ _ (by rfl) w.heap.size A2 j c2 (us.flatMap tvE) (by rfl) (own_keep0 hst3.row ((Keeps.refl w3 []).alloc _)) (some ⟨w3.heap.size, 0, none⟩) 1 1 (tvE u) (by rfl) (Rd.one w3 _ (tvE u)) rfl (by simp) (by simp [tvE, Value.oneCell']) (by omega) (by simp; have := HS.out.keep.size; have := HK3.out.size; omega) ?_
      intro A' c' w2 hown hgrow hat
      have HSt := Lib.hid (HST3.out.step ((Keeps.refl w3 []).alloc _) HFR.out hown hgrow hat)
      have HBf : Hid (∀ u', Blk (w2.setCell ⟨w.heap.size + 1, 3, none⟩ u') rb 74 #[.pointer (some ⟨hb, 0, none⟩), .int .i64 (rd H f x q.2).2.1, .int .i64 (rd H f x q.2).2.2]) := fun u' =>
        ((HB3.out.alloc _).grown hgrow (fun e => by
          have hm : rb ∈ ownL (.slice A2 j c2) := by unfold ownL; rw [← e]; simp
          have := (own_lt HS.out.row hm).1
          omega)).far (by show rb ≠ w.heap.size + 1; omega) u'
      refine hK.out _ _ ?_ ?_
      · exact HW.out _ (((HK3.out.alloc _).more (fun b _ hb => List.mem_cons.2 (.inl (by simpa using hb)))).trans ((Keeps.ofGrown hgrow).more (fun b _ hb => List.mem_cons.2 (.inr hb))))
      (clear hHeld; intro hHeld; clear hK K; (try simp only [Act.put, List.setIfInBounds_toArray, List.set_cons_zero, List.set_cons_succ]))
      (repeat (first | (refine wpTx_take (v := ?_) rfl (by assumption) ?_ (by rfl) ?_; rotate_left; (focus (intro w' hSw; (try dsimp only at hSw); go_simp; (try with_reducible rfl); done)); simp only [Act.put, List.setIfInBounds_toArray, List.set_cons_zero, List.set_cons_succ]) | (refine wpTx_skip rfl (by assumption) (by rfl) ?_; simp only [Act.put, List.setIfInBounds_toArray, List.set_cons_zero, List.set_cons_succ])))
      refine wpTx_last rfl (fun K hK => ?_)
      go_simp
      refine hK.out _ _ (NoPanic.normal ?_); clear hK K; (try simp only [Act.put, List.setIfInBounds_toArray, List.set_cons_zero, List.set_cons_succ])
      go_wp2_with fail
      go_roundw
      case rel => exact ⟨j + 1, A', c', us ++ [u], by omega, by go_num, by rw [List.take_add_one, HX.out, Option.toList_some, rdL_snoc, HQ.out]; exact HSt.out, by rw [List.take_add_one, HX.out, Option.toList_some, rdL_snoc, HQ.out]; exact HBf.out _⟩
      case measure => simp [intOf]; omega
    · obtain rfl : m = j := by omega
      have htk : (partsP H d).take m = partsP H d := List.take_of_length_le (by rw [HM.out]; omega)
      rw [htk] at HS HBL
      have hd := HS.out.done (by omega)
      have hr := (HS.out.fix (w.heap.size, 34, #[.int .i64 0, .int .i64 0, .string ⟨#[]⟩, .slice none 0 0]) (by simp)).1
      have d0 := HS.out.out.cell 0
      have d1 := HS.out.out.cell 1
      have d2 := HS.out.out.cell 2
      have d3 := HS.out.out.cell 3
      have r0 := hr.cell 0
      have r1 := hr.cell 1
      have r2 := hr.cell 2
      have r3 := hr.cell 3
      have f0 := hr.frozen 0
      have f1 := hr.frozen 1
      have f2 := hr.frozen 2
      have f3 := hr.frozen 3
      have HD : Hid (∀ v0 v1 v2 v3, RdD w rb hb (.mk 2 0 x.1 (rdL (rd H f) (partsP H d) ([], (k, 0))).1, (rdL (rd H f) (partsP H d) ([], (k, 0))).2) (.returned (tvV ⟨2, 0, x.1, A2, m, c2⟩)) ((((wr.setCell ⟨w.heap.size, 0, none⟩ v0).setCell ⟨w.heap.size, 1, none⟩ v1).setCell ⟨w.heap.size, 2, none⟩ v2).setCell ⟨w.heap.size, 3, none⟩ v3)) := fun v0 v1 v2 v3 =>
        RdD.end4 (hd.mono fun b hb => ⟨hb.1, hb.2.2 (w.heap.size, 34, #[.int .i64 0, .int .i64 0, .string ⟨#[]⟩, .slice none 0 0]) (by simp)⟩) HBL.out HS.out.keep (Nat.le_refl _) (by omega) v0 v1 v2 v3
      clear hd hr hlt hj e1 htk hcell
      go_wp2_with fail
      exact bodyPost_ret (v := .agg #[.int .i64 2, .int .i64 0, .string x.1, .slice A2 m c2]) (by simp [results, Tryd.results65, go_sem, *]) rfl (HD.out _ _ _ _)
end
end Go.Proofs.YtnonfmaehfmigaaDoor
