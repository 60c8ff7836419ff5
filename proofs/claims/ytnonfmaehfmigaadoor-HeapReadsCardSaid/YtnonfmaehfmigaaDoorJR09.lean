/- The program's Read, whole. Printed by gen_hpreadc.py. -/
import Derived.Test.YtnonfmaehfmigaaDoorJR08
import Derived.Test.YtnonfmaehfmigaaDoorJR04
import Derived.Test.YtnonfmaehfmigaaDoorJR03
import Derived.Test.YtnonfmaehfmigaaDoorJR02
import Derived.Deep.RegionHeld3
import Derived.Deep.DrawnRows
import Derived.Deep.RegionWith
import Derived.Lib.SmallJoins
import Derived.Test.YtnonfmaehfmigaaDoorJR06
import Derived.Lib.AtoiAll
namespace Go.Proofs.YtnonfmaehfmigaaDoor
open Go.RowKit Go.Maps
section
variable {base hb ag ah vb : Nat} {AA FA TA MA : Option Addr} {ca nt ct nm cm cf : Nat} {H : PH} {tr : List Int} {mk : List (Int × Int)} {room : Nat}
/-- What the program reads: the term, or what is wrong. -/
def ReadD (w : World) (H : PH) (c : Int) (e : Ending) (w' : World) : Prop :=
  ∃ v er, e = .returned (.tuple #[tvV v, .int .i64 er]) ∧ Keeps w w' [] ∧ (∃ t, Tr w' (fun b => w.heap.size ≤ b) t v) ∧ ∀ t, Rg H c t → (tSize t : Int) ≤ 10000 → (∀ n ∈ tV t, n ≤ 999) → er = 0 ∧ Tr w' (fun b => w.heap.size ≤ b) t v
theorem Keeps.fresh {w w' : World} {b : Nat} (k : Keeps w w' [b]) (hb : w.heap.size ≤ b) : Keeps w w' [] := k.more fun i hi hm => by simp at hm; omega
set_option maxRecDepth 100000 in
set_option maxHeartbeats 6400000 in
theorem hread_any (ho : HOk H) {w : World} (hm : Hm w base hb ag ah vb AA FA TA MA ca nt ct nm cm cf H tr mk room) (c : Int) (h0 : 0 ≤ c) (h1 : c < 18446744073709551616) (hr : right c = true) :
    Calls Tryd.prog 8 #[.pointer (some ⟨hb, 0, none⟩), .int .u64 c] w (ReadD w H c) := by
  have hlen : (c :: 0 :: H.cells).length ≤ 65538 := by have := hm.ar.fits; have := hm.ar.most; simp; omega
  have hap := hm.lt
  have HM := Lib.hid hm
  have HO := Lib.hid ho
  have hK0 : Keeps w (w.alloc (.cells #[.int .i64 0, .int .i64 0, .string ⟨#[]⟩, .slice none 0 0] 34)) [] := (Keeps.refl w []).alloc _
  have hG0 : Blk (w.alloc (.cells #[.int .i64 0, .int .i64 0, .string ⟨#[]⟩, .slice none 0 0] 34)) w.heap.size 34 #[.int .i64 0, .int .i64 0, .string ⟨#[]⟩, .slice none 0 0] := Blk.new _ _ _
  have hG1 : Blk ((w.alloc (.cells #[.int .i64 0, .int .i64 0, .string ⟨#[]⟩, .slice none 0 0] 34)).alloc (.map #[] 0)) w.heap.size 34 #[.int .i64 0, .int .i64 0, .string ⟨#[]⟩, .slice none 0 0] := hG0.alloc _
  have hK1 : Keeps w ((w.alloc (.cells #[.int .i64 0, .int .i64 0, .string ⟨#[]⟩, .slice none 0 0] 34)).alloc (.map #[] 0)) [] := hK0.alloc _
  have hV1 := VC.made (w.alloc (.cells #[.int .i64 0, .int .i64 0, .string ⟨#[]⟩, .slice none 0 0] 34))
  have HCy : Hid (Calls Tryd.prog 31 #[.pointer (some ⟨hb, 0, none⟩), .int .u64 c, .map (some (w.heap.size + 1))] ((w.alloc (.cells #[.int .i64 0, .int .i64 0, .string ⟨#[]⟩, .slice none 0 0] 34)).alloc (.map #[] 0)) (CycD ((w.alloc (.cells #[.int .i64 0, .int .i64 0, .string ⟨#[]⟩, .slice none 0 0] 34)).alloc (.map #[] 0)) (w.heap.size + 1) H (c :: 0 :: H.cells) (fun _ => none) 0 c)) := by
    refine cyclic_any ⟨by simp, fun x hx => by simp [hx]⟩ ho (uns (c :: 0 :: H.cells) (fun _ => none)) _ _ 0 _ c ⟨hm.keep0 hK1, by simpa using hV1, fun hm' => by have := hap _ hm'; omega, by have := uns_len (c :: 0 :: H.cells) (fun _ => none); omega⟩ (Nat.le_refl _) ⟨by simp, h0, h1, hr⟩
  have HRd := Lib.hid (fun (W : World) (kk : Keeps w W []) (rb : Nat) (hrb : w.heap.size ≤ rb) (hbl : Blk W rb 74 #[.pointer (some ⟨hb, 0, none⟩), .int .i64 10000, .int .i64 0]) => read_any ho 10000 (by omega) W rb c (10000, 0) (hm.keep0 kk) (fun hm' => by have := hap _ hm'; omega) hbl (by simp) (by simp) (by simp) h0 h1 hr)
  have HG1 := Lib.hid hG1
  have HK1 := Lib.hid hK1
  have hmm := @run_makeMap Tryd.prog
  have HHm : Hid (∀ {W : World}, Keeps w W [] → True) := fun _ => trivial
  clear hm ho h0 h1 hr hK0 hG0 hV1 hK1 hG1 hap hlen HHm
  go_enter Tryd.func8, Tryd.ntmps8
  go_wp2_with fail
  refine HCy.out.mono ?_
  rintro e w1 ⟨r, S', n', rfl, k1, hno, _⟩
  have hK2 : Keeps w w1 [] := by
    have hz := HK1.out.size
    have h1 : Keeps w w1 [w.heap.size + 1] := (HK1.out.to_ _).trans k1
    exact h1.fresh (by omega)
  have HK2 := Lib.hid hK2
  have hG2 := HG1.out.keep k1 (by simp)
  have HG2 := Lib.hid hG2
  clear k1 hK2 HCy HG1 HK1
  cases r with
  | true =>
    have HR : Hid (ReadD w H c (.returned (.tuple #[tvV zV, .int .i64 15])) ((((w1.setCell ⟨w.heap.size, 0, none⟩ (.int .i64 0)).setCell ⟨w.heap.size, 1, none⟩ (.int .i64 0)).setCell ⟨w.heap.size, 2, none⟩ (.string ⟨#[]⟩)).setCell ⟨w.heap.size, 3, none⟩ (.slice none 0 0))) :=
      ⟨zV, 15, rfl, HK2.out.put4 (.inr (Nat.le_refl _)) _ _ _ _, ⟨tZ, tr_zero _ _⟩, fun t ht _ _ => absurd (fun a ha => by cases ha) (hno rfl t ht)⟩
    clear hno
    have r0 := hG2.cell 0
    have r1 := hG2.cell 1
    have r2 := hG2.cell 2
    have r3 := hG2.cell 3
    have f0 := hG2.frozen 0
    have f1 := hG2.frozen 1
    have f2 := hG2.frozen 2
    have f3 := hG2.frozen 3
    go_wp2_with fail
    exact bodyPost_ret (v := .tuple #[.agg #[.int .i64 0, .int .i64 0, .string ⟨#[]⟩, .slice none 0 0], .int .i64 15]) (by simp [results, Tryd.results8, go_sem, *]) rfl HR.out
  | false =>
    have hK3 : Keeps w (w1.alloc (.cells #[.pointer (some ⟨hb, 0, none⟩), .int .i64 10000, .int .i64 0] 74)) [] := HK2.out.alloc _
    have HC := Lib.hid (HRd.out _ hK3 w1.heap.size HK2.out.size (Blk.new _ _ _))
    have HG3 := Lib.hid (hG2.alloc (.cells #[.pointer (some ⟨hb, 0, none⟩), .int .i64 10000, .int .i64 0] 74))
    have HK3 := Lib.hid hK3
    have hz := HK2.out.size
    have hgz := hG2.lt
    have HZ := Lib.hid (And.intro hz hgz)
    clear hno hK3 hG2 hz hgz
    go_wp2_with fail
    refine HC.out.mono ?_
    rintro e w3 ⟨u, rfl, hu, hb3, k3⟩
    have hz := HZ.out
    have hK4 : Keeps w w3 [] := ((HK3.out.to_ [w1.heap.size]).trans k3).fresh hz.1
    have hG4 := HG3.out.keep k3 (by simp; omega)
    have hsz := k3.size
    simp only [World.size_alloc] at hsz
    obtain ⟨k_, n_, s_, A_, m_, c_⟩ := u
    have hL : ∀ t, Rg H c t → (tSize t : Int) ≤ 10000 → (∀ n ∈ tV t, n ≤ 999) → (rd H (10000 + 1) c (10000, 0)).2.2 = 0 ∧ (rd H (10000 + 1) c (10000, 0)).1 = t := fun t ht h1 h2 => by
      rw [rd_ok ht h2 (10000 + 1) 10000 h1 (by omega)]
      exact ⟨rfl, rfl⟩
    generalize rd H (10000 + 1) c (10000, 0) = r at hu hb3 hL
    obtain ⟨tt, lf, er⟩ := r
    simp only at hu hb3 hL
    have HL := Lib.hid hL
    have hb4 := hb3.alloc (.cells #[.int .i64 k_, .int .i64 n_, .string s_, .slice A_ m_ c_] 34)
    have x2 := hb4.cell 2
    have hG5 := hG4.alloc (.cells #[.int .i64 k_, .int .i64 n_, .string s_, .slice A_ m_ c_] 34)
    have hT5 : Blk (w3.alloc (.cells #[.int .i64 k_, .int .i64 n_, .string s_, .slice A_ m_ c_] 34)) w3.heap.size 34 #[.int .i64 k_, .int .i64 n_, .string s_, .slice A_ m_ c_] := Blk.new _ _ _
    have hK5 : Keeps w (w3.alloc (.cells #[.int .i64 k_, .int .i64 n_, .string s_, .slice A_ m_ c_] 34)) [] := hK4.alloc _
    have hu5 : Tr (w3.alloc (.cells #[.int .i64 k_, .int .i64 n_, .string s_, .slice A_ m_ c_] 34)) (fun b => w.heap.size ≤ b ∧ b ≠ w.heap.size) tt ⟨k_, n_, s_, A_, m_, c_⟩ := (hu.mono (fun b hb => by simp only [World.size_alloc] at hb; exact ⟨by omega, by omega⟩)).keep ((Keeps.refl _ []).alloc _)
    have HU5 := Lib.hid hu5
    have HK5 := Lib.hid hK5
    unfold tvV
    by_cases he : er = 0
    · subst he
      have r0 := hG5.cell 0
      have r1 := hG5.cell 1
      have r2 := hG5.cell 2
      have r3 := hG5.cell 3
      have f0 := hG5.frozen 0
      have f1 := hG5.frozen 1
      have f2 := hG5.frozen 2
      have f3 := hG5.frozen 3
      have t0 := hT5.cell 0
      have t1 := hT5.cell 1
      have t2 := hT5.cell 2
      have t3 := hT5.cell 3
      have v0 := hT5.frozen 0
      have v1 := hT5.frozen 1
      have v2 := hT5.frozen 2
      have v3 := hT5.frozen 3
      have HR : Hid (∀ v0 v1 v2 v3, ReadD w H c (.returned (.tuple #[tvV ⟨k_, n_, s_, A_, m_, c_⟩, .int .i64 0])) (((((w3.alloc (.cells #[.int .i64 k_, .int .i64 n_, .string s_, .slice A_ m_ c_] 34)).setCell ⟨w.heap.size, 0, none⟩ v0).setCell ⟨w.heap.size, 1, none⟩ v1).setCell ⟨w.heap.size, 2, none⟩ v2).setCell ⟨w.heap.size, 3, none⟩ v3)) := fun v0 v1 v2 v3 => by
        have ht := ((HU5.out).far4 (g := w.heap.size) (fun h => h.2 rfl) v0 v1 v2 v3).mono (S' := fun b => w.heap.size ≤ b) (fun b hb => hb.1)
        exact ⟨_, 0, rfl, HK5.out.put4 (.inr (Nat.le_refl _)) _ _ _ _, ⟨tt, ht⟩, fun t h1 h2 h3 => ⟨rfl, by have := (HL.out t h1 h2 h3).2; subst this; exact ht⟩⟩
      clear hu hb3 hL hb4 hG4 hG5 hT5 hK4 hK5 hu5 k3 hz hsz
      go_wp2_with fail
      exact bodyPost_ret (v := .tuple #[.agg #[.int .i64 k_, .int .i64 n_, .string s_, .slice A_ m_ c_], .int .i64 0]) (by simp [results, Tryd.results8, go_sem, *]) rfl (HR.out _ _ _ _)
    · have e1 : (er == 0) = false := by simpa using he
      have e2 : (er != 0) = true := by simpa using he
      have r0 := hG5.cell 0
      have r1 := hG5.cell 1
      have r2 := hG5.cell 2
      have r3 := hG5.cell 3
      have f0 := hG5.frozen 0
      have f1 := hG5.frozen 1
      have f2 := hG5.frozen 2
      have f3 := hG5.frozen 3
      have HR : Hid (∀ (W : World) v0 v1 v2 v3, Keeps (w3.alloc (.cells #[.int .i64 k_, .int .i64 n_, .string s_, .slice A_ m_ c_] 34)) W [] → ReadD w H c (.returned (.tuple #[tvV zV, .int .i64 er])) ((((W.setCell ⟨w.heap.size, 0, none⟩ v0).setCell ⟨w.heap.size, 1, none⟩ v1).setCell ⟨w.heap.size, 2, none⟩ v2).setCell ⟨w.heap.size, 3, none⟩ v3)) := fun W v0 v1 v2 v3 kk =>
        ⟨zV, er, rfl, (HK5.out.trans kk).put4 (.inr (Nat.le_refl _)) _ _ _ _, ⟨tZ, tr_zero _ _⟩, fun t h1 h2 h3 => absurd (HL.out t h1 h2 h3).1 he⟩
      have HNe : Hid (w.heap.size ≠ w1.heap.size) := by have := hz.2; exact Lib.hid (by omega)
      have hne := HNe.out
      have hne' : w1.heap.size ≠ w.heap.size := fun e => hne e.symm
      clear hu hb3 hL hb4 hG4 hT5 hK4 hK5 hu5 k3 hz hsz he hG5
      go_upto_region 8 with fail
      generalize hW : (w3.alloc (.cells #[.int .i64 k_, .int .i64 n_, .string s_, .slice A_ m_ c_] 34)) = W at *
      refine wp_region_tx (fun W' => W'.cell? ⟨w1.heap.size, 2, none⟩ = some (.int .i64 er)) [(0, true), (1, true), (2, true), (3, true), (4, true), (5, false), (6, false)] (by kernel_rfl) (by kernel_rfl) (by exact x2) (fun hHeld => ?_)
      (repeat (first | (refine wpTx_take (v := ?_) rfl (by assumption) ?_ (by rfl) ?_; rotate_left; (focus (intro w' hSw; (try dsimp only at hSw); go_simp; (try with_reducible rfl); done)); simp only [Act.put, List.setIfInBounds_toArray, List.set_cons_zero, List.set_cons_succ]) | (refine wpTx_skip rfl (by assumption) (by rfl) ?_; simp only [Act.put, List.setIfInBounds_toArray, List.set_cons_zero, List.set_cons_succ])))
      refine wpTx_go rfl (fun K hK => ?_)
      go_simp
      refine hK.out _ _ ?_ ?_
      · go_simp
      (clear hHeld; intro hHeld; clear hK K; (try simp only [Act.put, List.setIfInBounds_toArray, List.set_cons_zero, List.set_cons_succ]))
      refine wpTx_last rfl (fun K hK => ?_)
      go_simp
      refine hK.out _ _ (NoPanic.normal ?_); clear hK K; (try simp only [Act.put, List.setIfInBounds_toArray, List.set_cons_zero, List.set_cons_succ])
      go_wp2_with fail
      exact bodyPost_ret (v := .tuple #[.agg #[.int .i64 0, .int .i64 0, .string ⟨#[]⟩, .slice none 0 0], .int .i64 er]) (by simp [results, Tryd.results8, go_sem, *]) rfl (HR.out _ _ _ _ _ (Keeps.refl _ _).drew)
end
end Go.Proofs.YtnonfmaehfmigaaDoor

/- A new heap; its names and cells, copied. Printed by gen_hpnew.py. -/
namespace Go.Proofs.YtnonfmaehfmigaaDoor
open Go.RowKit Go.Maps
/-- A copy of a row, of the call's own. -/
def CloneD (w : World) (elt : TypeId) (sz n : Nat) (vs : List Value) (e : Ending) (w' : World) : Prop :=
  ∃ A' c', e = .returned (.slice A' n c') ∧ w'.ownsRow w.heap.size elt sz (.slice A' n c') n vs ∧ Keeps w w' []
set_option maxRecDepth 20000 in
set_option maxHeartbeats 400000 in
theorem cloneS_any (A : Option Addr) (n c : Nat) (vs : List Value) (w : World) (hl : vs.length = n * 1) (hn : n ≤ 1000000) (hA : Rd w A vs) (hc : A = none → c = 0) (h1 : ∀ u ∈ vs, u.oneCell' = true) :
    Calls Tryd.prog 35 #[.slice A n c] w (CloneD w 9 1 n vs) := by
  cases A with
  | none =>
    obtain rfl := hc rfl
    have h0 : vs = [] := by
      cases vs with
      | nil => rfl
      | cons x t =>
        obtain ⟨b, off, v, e, _⟩ := hA 0 (by simp)
        cases e
    subst h0
    obtain rfl : n = 0 := by simp at hl; omega
    clear hA hn hc h1 hl
    have hne := Lib.run_eql_slice_nil (P := Tryd.prog)
    go_enter Tryd.func35, Tryd.ntmps35
    go_wp2_with fail
    go_ret
    exact ⟨none, 0, rfl, World.ownsRow_nil _ _ _ _, Keeps.refl _ _⟩
  | some A =>
  have HL := Lib.hid hl
  have HA := Lib.hid hA
  have H1 := Lib.hid h1
  have hne := Lib.run_eql_slice_nil (P := Tryd.prog)
  clear hl hA h1 hc
  go_enter Tryd.func35, Tryd.ntmps35
  go_wp2_with (at_builtin; refine wpList_app _ el_str rfl (.tmp 5) (.tmp 6) rfl w.heap.size (some ⟨w.heap.size, 0, none⟩) 0 0 [] rfl (World.ownsRow_made _ #[] 0 (Nat.le_refl _) (Nat.zero_le _) rfl) (some A) n c vs rfl (HA.out.alloc _) HL.out (fun hh => by cases hh) H1.out (by omega) (by simp) ?_; intro A' c' w1 hown hgrow hat)
  go_ret
  refine ⟨A', c', by simp, by simpa using hown, ((Keeps.refl w []).alloc _).grown hgrow (fun k hk => .inr (by simp [Value.ownBlock] at hk; omega))⟩
set_option maxRecDepth 20000 in
set_option maxHeartbeats 400000 in
theorem cloneF_any (A : Option Addr) (n c : Nat) (vs : List Value) (w : World) (hl : vs.length = n * 2) (hn : n ≤ 1000000) (hA : Rd w A vs) (hc : A = none → c = 0) (h1 : ∀ u ∈ vs, u.oneCell' = true) :
    Calls Tryd.prog 36 #[.slice A n c] w (CloneD w 80 2 n vs) := by
  cases A with
  | none =>
    obtain rfl := hc rfl
    have h0 : vs = [] := by
      cases vs with
      | nil => rfl
      | cons x t =>
        obtain ⟨b, off, v, e, _⟩ := hA 0 (by simp)
        cases e
    subst h0
    obtain rfl : n = 0 := by simp at hl; omega
    clear hA hn hc h1 hl
    have hne := Lib.run_eql_slice_nil (P := Tryd.prog)
    go_enter Tryd.func36, Tryd.ntmps36
    go_wp2_with fail
    go_ret
    exact ⟨none, 0, rfl, World.ownsRow_nil _ _ _ _, Keeps.refl _ _⟩
  | some A =>
  have HL := Lib.hid hl
  have HA := Lib.hid hA
  have H1 := Lib.hid h1
  have hne := Lib.run_eql_slice_nil (P := Tryd.prog)
  clear hl hA h1 hc
  go_enter Tryd.func36, Tryd.ntmps36
  go_wp2_with (at_builtin; refine wpList_app _ el_fun rfl (.tmp 5) (.tmp 6) rfl w.heap.size (some ⟨w.heap.size, 0, none⟩) 0 0 [] rfl (World.ownsRow_made _ #[] 0 (Nat.le_refl _) (Nat.zero_le _) rfl) (some A) n c vs rfl (HA.out.alloc _) HL.out (fun hh => by cases hh) H1.out (by omega) (by simp) ?_; intro A' c' w1 hown hgrow hat)
  go_ret
  refine ⟨A', c', by simp, by simpa using hown, ((Keeps.refl w []).alloc _).grown hgrow (fun k hk => .inr (by simp [Value.ownBlock] at hk; omega))⟩
/-- A heap that holds nothing. -/
def PH0 : PH := ⟨[], [], [], fun _ => none⟩
theorem PH0.ok : HOk PH0 := ⟨by simp [PH0], by simp [PH0], by simp [PH0], by simp [PH0], by simp [PH0]⟩
theorem PH0.vi : VI PH0 := ⟨by simp [PH0], by simp [PH0]⟩
def NewD (w : World) (room : Nat) (e : Ending) (w' : World) : Prop :=
  ∃ hb L, e = .returned (.tuple #[.pointer (some ⟨hb, 0, none⟩), .int .i64 0]) ∧ Hp w' w.heap.size hb L PH0 [] [] room ∧ (∀ b ∈ L, w.heap.size ≤ b) ∧ Keeps w w' []
set_option maxRecDepth 100000 in
set_option maxHeartbeats 1600000 in
theorem hnew_yes (room : Nat) (w : World) (hr : room ≤ 65536) : Calls Tryd.prog 27 #[.int .i64 room] w (NewD w room) := by
  have HC := Lib.hid (new_yes room w hr)
  have hmm := @run_makeMap Tryd.prog
  go_enter Tryd.func27, Tryd.ntmps27
  go_wp2_with fail
  refine HC.out.mono ?_
  rintro e w1 ⟨ag, ah, rfl, ha, hb⟩
  have HA := Lib.hid ha
  have HB := Lib.hid hb
  have hz := ha.lt
  have HZ := Lib.hid hz
  clear ha hb hz HC
  go_wp2_with fail
  go_ret2
  have hz := HZ.out
  have hk1 := Keeps.of_below HB.out []
  have hsz := hk1.size
  have hal := HA.out.low
  have hB : Blk ((w1.alloc (.map #[] 0)).alloc (.cells #[.pointer (some ⟨ag, 0, none⟩), .slice none 0 0, .slice none 0 0, .map (some w1.heap.size), .slice none 0 0, .slice none 0 0] 85)) (w1.heap.size + 1) 85 #[.pointer (some ⟨ag, 0, none⟩), .slice none 0 0, .slice none 0 0, .map (some w1.heap.size), .slice none 0 0, .slice none 0 0] := Blk.newAt _ _ (by simp)
  have hK : Keeps w1 ((w1.alloc (.map #[] 0)).alloc (.cells #[.pointer (some ⟨ag, 0, none⟩), .slice none 0 0, .slice none 0 0, .map (some w1.heap.size), .slice none 0 0, .slice none 0 0] 85)) [] := ((Keeps.refl w1 []).alloc _).alloc _
  refine ⟨w1.heap.size + 1, _, by simp, ⟨ag, ah, w1.heap.size, none, none, none, none, 0, 0, 0, 0, 0, 0, rfl, ⟨by simpa [PH0] using hB, HA.out.keep hK (by simp) (by simp), World.ownsRow_nil _ _ _ _, World.ownsRow_nil _ _ _ _, (VM.made w1).kept ((Keeps.refl _ []).alloc _) (by simp), World.ownsRow_nil _ _ _ _, World.ownsRow_nil _ _ _ _, ⟨by omega, hsz⟩, ⟨by simp [PH0], by simp [PH0]⟩⟩⟩, ?_, hk1.trans hK⟩
  intro b hb'
  simp [hpL, ownL, Value.ownBlock] at hb'
  rcases hb' with rfl | rfl | rfl | rfl
  · omega
  · exact hal
  · exact hz.2.2.2
  · exact hsz
set_option maxRecDepth 100000 in
set_option maxHeartbeats 1600000 in
theorem hnew_no (room : Int) (w : World) (hr : room < 0 ∨ 65536 < room) : Calls Tryd.prog 27 #[.int .i64 room] w fun e w' => e = .returned (.tuple #[.pointer none, .int .i64 1]) ∧ w = w' := by
  have HC := Lib.hid (new_no room w hr)
  clear hr
  go_enter Tryd.func27, Tryd.ntmps27
  go_wp2_with fail
  refine HC.out.mono ?_
  rintro e w1 ⟨rfl, rfl⟩
  go_wp2_with fail
  go_ret2
  exact ⟨rfl, rfl⟩
section
variable {w : World} {base hb ag ah vb : Nat} {AA FA TA MA : Option Addr} {ca nt ct nm cm cf : Nat} {H : PH} {tr : List Int} {mk : List (Int × Int)} {room : Nat}
set_option maxRecDepth 100000 in
set_option maxHeartbeats 1600000 in
theorem hcells_any (hm : Hm w base hb ag ah vb AA FA TA MA ca nt ct nm cm cf H tr mk room) : Calls Tryd.prog 22 #[.pointer (some ⟨hb, 0, none⟩)] w (Copied w 28 H.cells) := by
  have HC := Lib.hid (cells_any hm.ar)
  have x0 := hm.blk.cell 0
  clear hm
  go_enter Tryd.func22, Tryd.ntmps22
  go_wp2_with fail
  refine HC.out.mono ?_
  rintro e w1 ⟨A', c', rfl, hown, hb1⟩
  clear x0 HC
  go_wp2_with fail
  go_ret
  exact ⟨A', c', rfl, hown, hb1⟩
def NamesD (w : World) (H : PH) (e : Ending) (w' : World) : Prop :=
  ∃ A c A' c', e = .returned (.agg #[.slice A H.atoms.length c, .slice A' H.funs.length c']) ∧ Rd w' A (H.atoms.map Value.string) ∧ Rd w' A' (H.funs.flatMap funE) ∧ Keeps w w' []
set_option maxRecDepth 100000 in
set_option maxHeartbeats 1600000 in
theorem hnames_any (hm : Hm w base hb ag ah vb AA FA TA MA ca nt ct nm cm cf H tr mk room) : Calls Tryd.prog 24 #[.pointer (some ⟨hb, 0, none⟩)] w (NamesD w H) := by
  have HS := Lib.hid (fun (W : World) (kk : Keeps w W []) => cloneS_any AA H.atoms.length ca (H.atoms.map Value.string) W (by simp) hm.few.1 ((Rd.of_own hm.atoms).keep kk) (fun e => by subst e; exact own_zeroN hm.atoms) (by intro u hu; obtain ⟨x, _, rfl⟩ := List.mem_map.1 hu; rfl))
  have HF := Lib.hid (fun (W : World) (kk : Keeps w W []) => cloneF_any FA H.funs.length cf (H.funs.flatMap funE) W (length_flat funE_len _) hm.few.2 ((Rd.of_own hm.funs).keep kk) (fun e => by subst e; exact own_zeroN hm.funs) (funE_one _))
  have hK0 : Keeps w (w.alloc (.cells #[.slice none 0 0, .slice none 0 0] 46)) [] := (Keeps.refl w []).alloc _
  have hG0 : Blk (w.alloc (.cells #[.slice none 0 0, .slice none 0 0] 46)) w.heap.size 46 #[.slice none 0 0, .slice none 0 0] := Blk.new _ _ _
  have HK0 := Lib.hid hK0
  have HG0 := Lib.hid hG0
  have HZ := Lib.hid hG0.lt
  have HW : Hid (∀ W, Keeps (w.alloc (.cells #[.slice none 0 0, .slice none 0 0] 46)) W [] → (W.cell? ⟨hb, 1, none⟩ = some (.slice AA H.atoms.length ca) ∧ W.cell? ⟨hb, 2, none⟩ = some (.slice FA H.funs.length cf)) ∧ (W.cell? ⟨w.heap.size, 0, none⟩ = some (.slice none 0 0) ∧ W.cell? ⟨w.heap.size, 1, none⟩ = some (.slice none 0 0)) ∧ W.frozen? ⟨w.heap.size, 0, none⟩ = false ∧ W.frozen? ⟨w.heap.size, 1, none⟩ = false) := fun W kk =>
    have hb1 := hm.blk.keep (HK0.out.trans kk) (by simp)
    have hg1 := HG0.out.keep kk (by simp)
    ⟨⟨hb1.cell 1, hb1.cell 2⟩, ⟨hg1.cell 0, hg1.cell 1⟩, hg1.frozen 0, hg1.frozen 1⟩
  clear hK0 hG0 hm HG0
  go_enter Tryd.func24, Tryd.ntmps24
  go_upto_region 3 with fail
  generalize (w.alloc (.cells #[.slice none 0 0, .slice none 0 0] 46)) = w0 at HK0 HW HZ ⊢
  obtain ⟨⟨q0, q1⟩, ⟨q2, q3⟩, q4, q5⟩ := HW.out w0 (Keeps.refl _ _)
  refine wp_region_tx (fun W' => (W'.cell? ⟨hb, 1, none⟩ = some (.slice AA H.atoms.length ca) ∧ W'.cell? ⟨hb, 2, none⟩ = some (.slice FA H.funs.length cf)) ∧ (W'.cell? ⟨w.heap.size, 0, none⟩ = some (.slice none 0 0) ∧ W'.cell? ⟨w.heap.size, 1, none⟩ = some (.slice none 0 0)) ∧ W'.frozen? ⟨w.heap.size, 0, none⟩ = false ∧ W'.frozen? ⟨w.heap.size, 1, none⟩ = false) [(0, true), (1, true), (2, true), (3, true), (4, true), (6, true), (7, true), (8, true), (9, true), (10, true), (5, false), (11, false), (12, true), (13, false)] (by kernel_rfl) (by kernel_rfl) (HW.out _ (Keeps.refl _ _).drew) (fun hHeld => ?_)
  (repeat (first | (refine wpTx_take (v := ?_) rfl (by assumption) ?_ (by rfl) ?_; rotate_left; (focus (intro w' hSw; (try dsimp only at hSw); go_simp; (try with_reducible rfl); done)); simp only [Act.put, List.setIfInBounds_toArray, List.set_cons_zero, List.set_cons_succ]) | (refine wpTx_skip rfl (by assumption) (by rfl) ?_; simp only [Act.put, List.setIfInBounds_toArray, List.set_cons_zero, List.set_cons_succ])))
  refine wpTx_go rfl (fun K hK => ?_)
  go_simp
  refine (HS.out _ HK0.out.drew).mono ?_
  rintro e w1 ⟨A, c, rfl, o1, k1⟩
  have HK1 := Lib.hid ((Keeps.refl w0 []).drew.trans k1)
  have HO1 := Lib.hid o1
  clear o1 k1
  refine hK.out _ _ ?_ ?_
  · exact HW.out _ HK1.out
  (clear hHeld; intro hHeld; clear hK K; (try simp only [Act.put, List.setIfInBounds_toArray, List.set_cons_zero, List.set_cons_succ]))
  refine wpTx_go rfl (fun K hK => ?_)
  go_simp
  refine (HF.out _ (HK0.out.trans HK1.out)).mono ?_
  rintro e w2 ⟨A', c', rfl, o2, k2⟩
  have HK2 := Lib.hid (HK1.out.trans k2)
  have HR1 := Lib.hid (own_keep0 HO1.out k2)
  have HR2 := Lib.hid o2
  have HZ1 := Lib.hid HK1.out.size
  clear o2 k2
  refine hK.out _ _ ?_ ?_
  · exact HW.out _ HK2.out
  (clear hHeld; intro hHeld; clear hK K; (try simp only [Act.put, List.setIfInBounds_toArray, List.set_cons_zero, List.set_cons_succ]))
  (repeat (first | (refine wpTx_take (v := ?_) rfl (by assumption) ?_ (by rfl) ?_; rotate_left; (focus (intro w' hSw; (try dsimp only at hSw); go_simp; (try with_reducible rfl); done)); simp only [Act.put, List.setIfInBounds_toArray, List.set_cons_zero, List.set_cons_succ]) | (refine wpTx_skip rfl (by assumption) (by rfl) ?_; simp only [Act.put, List.setIfInBounds_toArray, List.set_cons_zero, List.set_cons_succ])))
  refine wpTx_last rfl (fun K hK => ?_)
  go_simp
  refine hK.out _ _ (NoPanic.normal ?_); clear hK K; (try simp only [Act.put, List.setIfInBounds_toArray, List.set_cons_zero, List.set_cons_succ])
  have hz := HZ.out
  have hz1 := HZ1.out
  have hne : ∀ (B m cc : Nat) (D : Option Addr) (e : TypeId) (sz : Nat) (xs : List Value) (W : World), w0.heap.size ≤ B → W.ownsRow B e sz (.slice D m cc) m xs → w.heap.size ∉ ownL (.slice D m cc) := fun B m cc D e sz xs W hB ho hm' => by
    have := (own_lt ho hm').1
    omega
  have HP : Hid (∀ v0 v1, NamesD w H (.returned (.agg #[.slice A H.atoms.length c, .slice A' H.funs.length c'])) ((w2.setCell ⟨w.heap.size, 0, none⟩ v0).setCell ⟨w.heap.size, 1, none⟩ v1)) := fun v0 v1 =>
    ⟨A, c, A', c', rfl, Rd.of_own (own_setN (own_setN HR1.out (hne _ _ _ _ _ _ _ _ (by simp) HR1.out) 0 v0) (hne _ _ _ _ _ _ _ _ (by simp) HR1.out) 1 v1), Rd.of_own (own_setN (own_setN HR2.out (hne _ _ _ _ _ _ _ _ hz1 HR2.out) 0 v0) (hne _ _ _ _ _ _ _ _ hz1 HR2.out) 1 v1), ((HK0.out.trans HK2.out).setCell (.inr (Nat.le_refl _)) _).setCell (.inr (Nat.le_refl _)) _⟩
  clear hne hz hz1 q0 q1 q2 q3 q4 q5
  go_wp2_with fail
  exact bodyPost_ret (v := .agg #[.slice A H.atoms.length c, .slice A' H.funs.length c']) (by simp [results, Tryd.results24, go_sem, *]) rfl (HP.out _ _)
end
end Go.Proofs.YtnonfmaehfmigaaDoor

/- What is laid keeps a heap right; how much comes; what a built cell is read as. No program in sight. -/
namespace Go.Proofs.YtnonfmaehfmigaaDoor

theorem cell_mk {k n : Int} (h0 : 0 ≤ k) (h1 : k ≤ 4) (h2 : 0 ≤ n) (h3 : n < 1099511627776) : right (n * 8 + k) = true ∧ kindOf (n * 8 + k) = k ∧ numOf (n * 8 + k) = n := by
  have hr : right (n * 8 + k) = true := (right_iff _).2 ⟨by omega, by omega⟩
  unfold kindOf numOf
  rw [if_pos hr, if_pos hr]
  exact ⟨hr, by omega, by omega⟩
/-- A cell that may be put behind. -/
structure RefC (H : PH) (c : Int) : Prop where
  rt : right c = true
  ref : kindOf c = 0 → numOf c < H.cells.length
theorem RefC.mono {H H' : PH} (h : H.le H') {c : Int} (k : RefC H c) : RefC H' c := ⟨k.rt, fun e => by have := k.ref e; have := h.cells.length_le; omega⟩
theorem HOk.vb {H : PH} (h : HOk H) : VB H := ⟨h.vars⟩
theorem HOk.app {H : PH} (h : HOk H) {cs : List Int} (hc : ∀ c ∈ cs, Go.Proofs.YtnonfmaehfmigaaDoor.right c = true ∧ (kindOf c = 0 → numOf c ≤ H.cells.length)) {F : List (ByteArray × Int)} (hF : ∀ x ∈ F, (0 ≤ x.2 ∧ x.2 ≤ 1000) ∧ x.1.size ≤ 9223372036854775807) {A : List ByteArray} (hA : ∀ s ∈ A, s.size ≤ 9223372036854775807) {V : Int → Option Int} (hV : ∀ n p, V n = some p → ∃ q : Nat, p = q ∧ q < H.cells.length + cs.length) : HOk { cells := H.cells ++ cs, atoms := A, funs := F, vars := V } := by
  refine ⟨fun x hx => ?_, fun p x hx hk => ?_, fun n p hp => ?_, fun x hx => (hF x hx).1, ⟨hA, fun x hx => (hF x hx).2⟩⟩
  · rcases List.mem_append.1 hx with hx | hx
    · exact h.right x hx
    · exact (hc x hx).1
  · have hx' : (H.cells ++ cs)[p]? = some x := hx
    by_cases hp : p < H.cells.length
    · rw [List.getElem?_append_left hp] at hx'
      exact h.refs p x hx' hk
    · rw [List.getElem?_append_right (by omega)] at hx'
      have := (hc x (List.mem_of_getElem? hx')).2 hk
      omega
  · obtain ⟨q, e, hq⟩ := hV n p hp
    exact ⟨q, e, by show q < (H.cells ++ cs).length; rw [List.length_append]; exact hq⟩
theorem numL_mem {α : Type} [DecidableEq α] {l : List α} {x y : α} (h : y ∈ numL l x) : y ∈ l ∨ y = x := by
  unfold numL at h
  split at h
  · exact .inl h
  · rcases List.mem_append.1 h with h | h
    · exact .inl h
    · exact .inr (by simpa using h)
theorem name_size {s : ByteArray} (h : nameOk s = true) : s.size ≤ 9223372036854775807 := by
  have := (name_bytes h).2.2.2.2
  have e : s.size = s.data.toList.length := by rw [Array.length_toList]; rfl
  omega
def LayH (room : Nat) (H : PH) (t : Tm) : Prop := FitR room (lay H t).1 → HOk (lay H t).1 ∧ RefC (lay H t).1 (lay H t).2
theorem lays_hok {room : Nat} : ∀ (l : List Tm), (∀ a ∈ l, ∀ H, HOk H → LayH room H a) → ∀ H, HOk H → FitR room (lays H l).1 → HOk (lays H l).1 ∧ ∀ c ∈ (lays H l).2, RefC (lays H l).1 c
  | [], _, H, h, _ => by rw [lays]; exact ⟨h, fun c hc => by simp at hc⟩
  | a :: l, ih, H, h, hf => by
    have h1 := layB_ok a H h.vb
    have h2 := laysB_ok l (fun a _ H v => layB_ok a H v) _ h1.2
    rw [lays] at hf ⊢
    obtain ⟨g1, g2⟩ := ih a (by simp) H h (hf.le h2.1)
    obtain ⟨k1, k2⟩ := lays_hok l (fun b hb => ih b (by simp [hb])) _ g1 hf
    refine ⟨k1, fun c hc => ?_⟩
    rcases List.mem_cons.1 hc with rfl | hc
    · exact g2.mono h2.1
    · exact k2 c hc
theorem lay_hok {room : Nat} (hr : room ≤ 65536) (t : Tm) : tRight t = true → ∀ H, HOk H → LayH room H t := by
  induction t using Tm.ind_ with
  | h k n s l ih =>
    intro ht H h hf
    rw [lay] at hf ⊢
    by_cases h0 : k = 0
    · rw [if_pos h0] at hf ⊢
      unfold layV at hf ⊢
      cases hv : H.vars n with
      | some p =>
        rw [hv] at hf
        obtain ⟨q, rfl, hq⟩ := h.vars n p hv
        have h1 : H.cells.length ≤ room := hf.1
        have h2 := cell_mk (k := 0) (n := (q : Int)) (by omega) (by omega) (by omega) (by omega)
        simp only [Int.add_zero] at h2
        exact ⟨h, ⟨h2.1, fun _ => by rw [h2.2.2]; exact_mod_cast hq⟩⟩
      | none =>
        rw [hv] at hf
        have h1 := hf.1
        simp at h1
        have h2 := cell_mk (k := 0) (n := (H.cells.length : Int)) (by omega) (by omega) (by omega) (by omega)
        simp only [Int.add_zero] at h2
        refine ⟨h.app (fun c hc => ?_) (fun x hx => ⟨h.funs x hx, h.sizes.2 x hx⟩) h.sizes.1 (fun m p hp => ?_), ⟨h2.1, fun _ => by rw [h2.2.2]; simp; omega⟩⟩
        · obtain rfl := List.mem_singleton.1 hc
          exact ⟨h2.1, fun _ => by rw [h2.2.2]; exact Int.le_refl _⟩
        · unfold putV at hp
          split at hp
          · exact ⟨H.cells.length, (Option.some.inj hp).symm, by simp⟩
          · obtain ⟨q, e, hq⟩ := h.vars m p hp
            exact ⟨q, e, by simp; omega⟩
    · rw [if_neg h0] at hf ⊢
      by_cases h1 : k = 1
      · rw [if_pos h1] at hf ⊢
        have h2 := hf.2.1
        have h3 := numI_lt H.atoms s
        simp only at h2
        have h4 := cell_mk (k := 2) (n := (numI H.atoms s : Int)) (by omega) (by omega) (by omega) (by omega)
        have hs : s.size ≤ 9223372036854775807 := by
          rw [tRight, Bool.and_eq_true, if_neg h0, if_pos h1] at ht
          obtain ⟨_, ht⟩ := ht
          simp only [Bool.and_eq_true] at ht
          exact name_size ht.1.2
        exact ⟨⟨h.right, h.refs, h.vars, h.funs, ⟨fun x hx => (numL_mem hx).elim (h.sizes.1 x) (fun e => by rw [e]; exact hs), h.sizes.2⟩⟩, ⟨h4.1, fun e => by rw [h4.2.1] at e; omega⟩⟩
      · rw [if_neg h1] at hf ⊢
        have hrp := right_parts ht
        have hB := laysB_ok l (fun a _ H v => layB_ok a H v) H h.vb
        simp only at hf ⊢
        by_cases h2 : k = 2
        · rw [if_pos h2] at hf ⊢
          have hle : (lays H l).1.le { (lays H l).1 with funs := numL (lays H l).1.funs (s, (l.length : Int)), cells := (lays H l).1.cells ++ ((numI (lays H l).1.funs (s, (l.length : Int)) : Int) * 8 + 4) :: (lays H l).2 } := ⟨List.prefix_append _ _, List.prefix_refl _, numL_pre _ _, fun _ _ h => h⟩
          obtain ⟨g1, g2⟩ := lays_hok l (fun a ha H hH => ih a ha (hrp a ha) H hH) H h (hf.le hle)
          have hc1 := hf.1
          have hf1 := hf.2.2
          simp at hc1 hf1
          have h3 := numI_lt (lays H l).1.funs (s, (l.length : Int))
          have h4 := cell_mk (k := 4) (n := (numI (lays H l).1.funs (s, (l.length : Int)) : Int)) (by omega) (by omega) (by omega) (by omega)
          have h5 := cell_mk (k := 1) (n := ((lays H l).1.cells.length : Int)) (by omega) (by omega) (by omega) (by omega)
          have hsl : s.size ≤ 9223372036854775807 ∧ l.length ≤ 8 := by
            rw [tRight, Bool.and_eq_true, if_neg h0, if_neg h1, if_pos h2] at ht
            obtain ⟨_, ht⟩ := ht
            simp only [Bool.and_eq_true, decide_eq_true_eq] at ht
            exact ⟨name_size (by first | exact ht.1.2 | exact ht.1.1.2 | exact ht.2.1.1 | exact ht.1.1 | exact ht.1), by omega⟩
          refine ⟨g1.app (fun c hc => ?_) (fun x hx => ?_) g1.sizes.1 (fun m p hp => ?_), ⟨h5.1, fun e => by rw [h5.2.1] at e; omega⟩⟩
          · rcases List.mem_cons.1 hc with rfl | hc
            · exact ⟨h4.1, fun e => by rw [h4.2.1] at e; omega⟩
            · exact ⟨(g2 c hc).rt, fun e => by have := (g2 c hc).ref e; omega⟩
          · rcases numL_mem hx with hx | rfl
            · exact ⟨g1.funs x hx, g1.sizes.2 x hx⟩
            · exact ⟨⟨by simp, by simp; omega⟩, hsl.1⟩
          · obtain ⟨q, e, hq⟩ := g1.vars m p hp
            exact ⟨q, e, by omega⟩
        · rw [if_neg h2] at hf ⊢
          have hle : (lays H l).1.le { (lays H l).1 with cells := (lays H l).1.cells ++ (lays H l).2 } := ⟨List.prefix_append _ _, List.prefix_refl _, List.prefix_refl _, fun _ _ h => h⟩
          obtain ⟨g1, g2⟩ := lays_hok l (fun a ha H hH => ih a ha (hrp a ha) H hH) H h (hf.le hle)
          have hc1 := hf.1
          simp at hc1
          have h5 := cell_mk (k := 3) (n := ((lays H l).1.cells.length : Int)) (by omega) (by omega) (by omega) (by omega)
          refine ⟨g1.app (fun c hc => ⟨(g2 c hc).rt, fun e => by have := (g2 c hc).ref e; omega⟩) (fun x hx => ⟨g1.funs x hx, g1.sizes.2 x hx⟩) g1.sizes.1 (fun m p hp => ?_), ⟨h5.1, fun e => by rw [h5.2.1] at e; omega⟩⟩
          obtain ⟨q, e, hq⟩ := g1.vars m p hp
          exact ⟨q, e, by omega⟩
/-! ### How much comes -/
structure Grow (H H' : PH) (m : Nat) : Prop where
  cells : H'.cells.length ≤ H.cells.length + 2 * m
  atoms : H'.atoms.length ≤ H.atoms.length + m
  funs : H'.funs.length ≤ H.funs.length + m
theorem lays_grow : ∀ (l : List Tm), (∀ a ∈ l, ∀ H, Grow H (lay H a).1 (tSize a) ∧ (lay H a).1.cells.length + 1 ≤ H.cells.length + 2 * tSize a) → ∀ H, Grow H (lays H l).1 (tSizes l) ∧ (lays H l).1.cells.length + l.length ≤ H.cells.length + 2 * tSizes l
  | [], _, H => by rw [lays]; exact ⟨⟨by simp, by simp, by simp⟩, by simp⟩
  | a :: l, ih, H => by
    obtain ⟨⟨a1, a2, a3⟩, a4⟩ := ih a (by simp) H
    obtain ⟨⟨b1, b2, b3⟩, b4⟩ := lays_grow l (fun b hb => ih b (by simp [hb])) (lay H a).1
    rw [lays, tSizes]
    simp only [List.length_cons]
    exact ⟨⟨by omega, by omega, by omega⟩, by omega⟩
theorem lay_grow (t : Tm) : ∀ H, Grow H (lay H t).1 (tSize t) ∧ (lay H t).1.cells.length + 1 ≤ H.cells.length + 2 * tSize t := by
  induction t using Tm.ind_ with
  | h k n s l ih =>
    intro H
    have hs := tSize_pos (.mk k n s l)
    rw [lay]
    split
    · unfold layV
      cases H.vars n with
      | some p => exact ⟨⟨by simp, by simp, by simp⟩, by simp only; omega⟩
      | none => exact ⟨⟨by simp; omega, by simp, by simp⟩, by simp; omega⟩
    · split
      · have := numL_len H.atoms s
        exact ⟨⟨by simp, by simp only; omega, by simp⟩, by simp only; omega⟩
      · obtain ⟨⟨a1, a2, a3⟩, a4⟩ := lays_grow l ih H
        have h1 := lays_len H l
        have h2 := numL_len (lays H l).1.funs (s, (l.length : Int))
        rw [tSize]
        simp only
        split
        · exact ⟨⟨by simp; omega, by simp only; omega, by simp only; omega⟩, by simp; omega⟩
        · exact ⟨⟨by simp; omega, by simp only; omega, by simp only; omega⟩, by simp; omega⟩
/-! ### What a built cell is read as -/
theorem Rp.rg {room : Nat} (hr : room ≤ 65536) {H : PH} (hf : FitR room H) {c : Int} {t : Tm} (h : Rp H c t) : Rg H c t := by
  have h1 := hf.1
  have h2 := hf.2.1
  induction h with
  | var p h =>
    have hp := (List.getElem?_eq_some_iff.1 h).1
    have h4 := cell_mk (k := 0) (n := (p : Int)) (by omega) (by omega) (by omega) (by omega)
    simp only [Int.add_zero] at h4
    have h5 : derefP H ((p : Int) * 8) = some ((p : Int) * 8) := deref_of_self h4.2.1 (by rw [h4.2.2, Int.toNat_natCast]; exact h)
    have h6 := Rg.var _ _ h5 h4.2.1
    rw [h4.2.2] at h6
    exact h6
  | con i s h =>
    have hp := (List.getElem?_eq_some_iff.1 h).1
    have h4 := cell_mk (k := 2) (n := (i : Int)) (by omega) (by omega) (by omega) (by omega)
    exact .con _ _ s (deref_of_non (by rw [h4.2.1]; omega)) h4.2.1 (by rw [h4.2.2, Int.toNat_natCast]; exact h)
  | lis p l cs hl hcs ha h ih =>
    have hp := (List.getElem?_eq_some_iff.1 (ha 0 _ (List.getElem?_eq_getElem (by omega)))).1
    have h4 := cell_mk (k := 3) (n := (p : Int)) (by omega) (by omega) (by omega) (by omega)
    have hpar : partsP H ((p : Int) * 8 + 3) = cs := by
      unfold partsP
      rw [if_neg (by rw [h4.2.1]; omega), h4.2.2, Int.toNat_natCast]
      refine List.ext_getElem? fun j => ?_
      by_cases hj : j < 2
      · have hc : cs[j]? = some cs[j] := List.getElem?_eq_getElem (by omega)
        rw [List.getElem?_map, List.getElem?_range hj, hc]
        simp only [Option.map_some, Option.some.injEq]
        unfold cellP
        rw [ha j _ hc]
        rfl
      · rw [List.getElem?_eq_none (by simp; omega), List.getElem?_eq_none (by omega)]
    have h6 := Rg.cmp _ _ l (deref_of_non (H := H) (by rw [h4.2.1]; omega)) (.inr h4.2.1) (fun e => by rw [h4.2.1] at e; omega) (by rw [hpar]; exact hcs.symm) (fun j t x hj hx => ih j t x hj (by rw [hpar] at hx; exact hx))
    rw [if_neg (by rw [h4.2.1]; omega), if_neg (by rw [h4.2.1]; omega)] at h6
    exact h6
  | str p i s l cs hl hg hi hcs ha h ih =>
    have hp := (List.getElem?_eq_some_iff.1 hg).1
    have hii := (List.getElem?_eq_some_iff.1 hi).1
    have h3 := hf.2.2
    have h4 := cell_mk (k := 1) (n := (p : Int)) (by omega) (by omega) (by omega) (by omega)
    have h5 := cell_mk (k := 4) (n := (i : Int)) (by omega) (by omega) (by omega) (by omega)
    have hfun : funP H ((p : Int) * 8 + 1) = some (s, (l.length : Int)) := by
      unfold funP
      rw [h4.2.2, Int.toNat_natCast, hg]
      simp only
      rw [if_pos h5.2.1, h5.2.2, Int.toNat_natCast]
      exact hi
    have hpar : partsP H ((p : Int) * 8 + 1) = cs := by
      unfold partsP
      rw [if_pos h4.2.1, hfun, h4.2.2, Int.toNat_natCast]
      simp only [Int.toNat_natCast]
      refine List.ext_getElem? fun j => ?_
      by_cases hj : j < l.length
      · have hc : cs[j]? = some (cs[j]'(by omega)) := List.getElem?_eq_getElem (by omega)
        rw [List.getElem?_map, List.getElem?_range hj, hc]
        simp only [Option.map_some, Option.some.injEq]
        unfold cellP
        rw [ha j _ hc]
        rfl
      · rw [List.getElem?_eq_none (by simp; omega), List.getElem?_eq_none (by omega)]
    have hne : cs ≠ [] := fun e => hl (List.length_eq_zero_iff.1 (by rw [← hcs, e]; rfl))
    have h6 := Rg.cmp _ _ l (deref_of_non (H := H) (by rw [h4.2.1]; omega)) (.inl h4.2.1) (fun _ => by rw [hpar]; exact hne) (by rw [hpar]; exact hcs.symm) (fun j t x hj hx => ih j t x hj (by rw [hpar] at hx; exact hx))
    rw [if_pos h4.2.1, if_pos h4.2.1] at h6
    unfold nameP at h6
    rw [hfun] at h6
    exact h6
end Go.Proofs.YtnonfmaehfmigaaDoor

/- Two terms that are built are read as they were, but for variables' numbers: the plain law. -/
namespace Go.Proofs.YtnonfmaehfmigaaDoor

theorem tSizes_map {f : Tm → Tm} : ∀ {l : List Tm}, (∀ a ∈ l, tSize (f a) = tSize a) → tSizes (l.map f) = tSizes l
  | [], _ => rfl
  | a :: l, h => by rw [List.map_cons, tSizes, tSizes, h a (by simp), tSizes_map fun b hb => h b (by simp [hb])]
theorem tRn_size (f : Int → Int) (t : Tm) : tSize (tRn f t) = tSize t := by
  induction t using Tm.ind_ with
  | h k n s l ih =>
    by_cases h0 : k = 0
    · rw [tRn_var f s l h0, tSize, tSize, tSizes_map ih]
    · rw [tRn_node f s l h0, tSize, tSize, tSizes_map ih]
theorem tRn_right {f : Int → Int} (t : Tm) : tRight t = true → (∀ n ∈ tV t, 0 ≤ f n ∧ f n ≤ 999) → tRight (tRn f t) = true := by
  induction t using Tm.ind_ with
  | h k n s l ih =>
    intro ht hf
    by_cases h0 : k = 0
    · subst h0
      have h1 := hf n (by rw [tV, if_pos rfl]; simp)
      rw [tRn_var f s l rfl]
      rw [tRight, Bool.and_eq_true, if_pos rfl] at ht ⊢
      obtain ⟨_, ht⟩ := ht
      simp only [Bool.and_eq_true, decide_eq_true_eq] at ht ⊢
      have hl : l = [] := List.length_eq_zero_iff.1 ht.2
      subst hl
      exact ⟨by simp [tRights], ⟨⟨h1, ht.1.2⟩, by simp⟩⟩
    · have hp := right_parts ht
      rw [tRn_node f s l h0]
      rw [tRight, Bool.and_eq_true] at ht ⊢
      refine ⟨(tRights_all _).2 fun a ha => ?_, by simpa using ht.2⟩
      obtain ⟨b, hb, rfl⟩ := List.mem_map.1 ha
      exact ih b hb (hp b hb) fun m hm => hf m (by rw [tV, if_neg h0]; exact mem_tVL.2 ⟨b, hb, hm⟩)
theorem tRn_vars {f : Int → Int} (t : Tm) : ∀ n ∈ tV (tRn f t), ∃ m ∈ tV t, n = f m := by
  induction t using Tm.ind_ with
  | h k n s l ih =>
    intro x hx
    by_cases h0 : k = 0
    · rw [tRn_var f s l h0, tV, if_pos h0] at hx
      simp at hx
      exact ⟨n, by rw [tV, if_pos h0]; simp, hx⟩
    · rw [tRn_node f s l h0, tV, if_neg h0] at hx
      obtain ⟨b, hb, hxb⟩ := mem_tVL.1 hx
      obtain ⟨a, ha, rfl⟩ := List.mem_map.1 hb
      obtain ⟨m, hm, e⟩ := ih a ha x hxb
      exact ⟨m, by rw [tV, if_neg h0]; exact mem_tVL.2 ⟨a, ha, hm⟩, e⟩
/-- Renamed by numbers that stay different, and named anew: the same. -/
theorem rn_inj {f : Int → Int} {l : List Tm} (hr : ∀ a ∈ l, tRight a = true) (hi : Inj f (tVars l)) : rn 0 (l.map (tRn f)) = rn 0 l := by
  have hin := vars_in hr
  have hv : tVars (l.map (tRn f)) = (tVars l).map f := vars_map hi hin
  show (l.map (tRn f)).map (tRn (ren 0 (tVars (l.map (tRn f))))) = l.map (tRn (ren 0 (tVars l)))
  rw [hv, List.map_map]
  refine List.map_congr_left fun a ha => ?_
  show tRn _ (tRn _ a) = _
  rw [tRn_comp]
  refine tRn_congr a (hr a ha) fun n hn => ?_
  show 0 + findI (hasI (f n)) ((tVars l).map f) = 0 + findI (hasI n) (tVars l)
  rw [findI_map hi (fun a h => h) ((hin a ha).vs n hn)]
theorem plc_at {H : PH} (v : VI H) {n : Int} (h : H.vars n ≠ none) : ∃ q : Nat, plc H n = q ∧ H.vars n = some (q : Int) ∧ q < H.cells.length := by
  cases hv : H.vars n with
  | none => exact absurd hv h
  | some p =>
    obtain ⟨q, rfl, hq⟩ := v.at_ n p hv
    exact ⟨q, by unfold plc; rw [hv]; rfl, rfl, (List.getElem?_eq_some_iff.1 hq).1⟩
/-- What two terms come to, in a fresh heap. -/
structure HpTwo (a b : Tm) (room : Nat) : Prop where
  fit1 : FitR room (lay PH0 a).1
  fit2 : FitR room (lay (lay PH0 a).1 b).1
  vi1 : VI (lay PH0 a).1
  vi2 : VI (lay (lay PH0 a).1 b).1
  ok2 : HOk (lay (lay PH0 a).1 b).1
  c1 : RefC (lay (lay PH0 a).1 b).1 (lay PH0 a).2
  c2 : RefC (lay (lay PH0 a).1 b).1 (lay (lay PH0 a).1 b).2
  rg : ∃ f : Int → Int, Rg (lay (lay PH0 a).1 b).1 (lay PH0 a).2 (tRn f a) ∧ Rg (lay (lay PH0 a).1 b).1 (lay (lay PH0 a).1 b).2 (tRn f b) ∧ (∀ n, n ∈ tV a ∨ n ∈ tV b → 0 ≤ f n ∧ f n ≤ 999) ∧ Inj f (tVars [a, b])
theorem two_of {a b : Tm} (ha : tRight a = true) (hb : tRight b = true) {room : Nat} (hr : room ≤ 1000) (hs : 2 * (tSize a + tSize b) ≤ room) : HpTwo a b room := by
  have g1 := (lay_grow a PH0).1
  have g2 := (lay_grow b (lay PH0 a).1).1
  have e1 : PH0.cells.length = 0 := rfl
  have e2 : PH0.atoms.length = 0 := rfl
  have e3 : PH0.funs.length = 0 := rfl
  have a1 := g1.cells
  have a2 := g1.atoms
  have a3 := g1.funs
  have b1 := g2.cells
  have b2 := g2.atoms
  have b3 := g2.funs
  have f1 : FitR room (lay PH0 a).1 := ⟨by omega, by omega, by omega⟩
  have f2 : FitR room (lay (lay PH0 a).1 b).1 := ⟨by omega, by omega, by omega⟩
  obtain ⟨l1, v1, d1, r1⟩ := lay_ok a ha PH0 PH0.vi
  obtain ⟨l2, v2, d2, r2⟩ := lay_ok b hb _ v1
  obtain ⟨k1, c1⟩ := lay_hok (by omega : room ≤ 65536) a ha PH0 PH0.ok f1
  obtain ⟨k2, c2⟩ := lay_hok (by omega : room ≤ 65536) b hb _ k1 f2
  have r1' := r1.mono l2
  rw [tRn_congr a (g := plc (lay (lay PH0 a).1 b).1) ha (fun n hn => (plc_mono l2 (d1 n hn)).symm)] at r1'
  have hd : ∀ n, n ∈ tV a ∨ n ∈ tV b → (lay (lay PH0 a).1 b).1.vars n ≠ none := fun n hn => hn.elim (fun h => vars_mono l2 (d1 n h)) (d2 n)
  refine ⟨f1, f2, v1, v2, k2, c1.mono l2, c2, _, r1'.rg (by omega : room ≤ 65536) f2, r2.rg (by omega : room ≤ 65536) f2, fun n hn => ?_, fun n hn m hm he => ?_⟩
  · obtain ⟨q, h1, _, h3⟩ := plc_at v2 (hd n hn)
    rw [h1]
    have := f2.1
    omega
  · have hin : ∀ n ∈ tVars [a, b], n ∈ tV a ∨ n ∈ tV b := fun n hn => by
      rcases (walks_mem (fun x hx => by simp at hx; rcases hx with rfl | rfl <;> assumption) [] n).1 hn with h | h
      · cases h
      · simpa [tVL] using h
    obtain ⟨q, h1, h2, _⟩ := plc_at v2 (hd n (hin n hn))
    obtain ⟨q', h1', h2', _⟩ := plc_at v2 (hd m (hin m hm))
    rw [h1, h1'] at he
    have : q = q' := by omega
    subst this
    exact v2.inj n m _ h2 h2'
end Go.Proofs.YtnonfmaehfmigaaDoor

/- A cell's text: that of a compound (turned from XCellText, whose names clash with the terms'). -/
namespace Go.Proofs.YtnonfmaehfmigaaDoor
open Go.RowKit
attribute [local go_sem] drewN_alloc
attribute [local go_sem ↓] Go.wp_at_zero Go.wp_at_succ
theorem ditoa_any (n : Nat) (hn : n ≤ 9223372036854775807) (w : World) (ht : Tab w) :
    Calls Tryd.prog 59 #[.int .i64 n] w fun e w' => e = .returned (.string (digits n)) ∧ Keeps w w' [] := itoa_any n hn w ht
def kindName : Nat → ByteArray
  | 0 => ⟨#[114, 101, 102, 32]⟩
  | 1 => ⟨#[115, 116, 114, 32]⟩
  | 2 => ⟨#[99, 111, 110, 32]⟩
  | 3 => ⟨#[108, 105, 115, 32]⟩
  | _ => ⟨#[102, 117, 110, 32]⟩
set_option maxHeartbeats 1600000 in
theorem ctext1_any (c : Int) (n : Nat) (w : World) (h0 : 0 ≤ c) (h1 : c < 18446744073709551616) (hr : right c = true) (hk : kindOf c = 1) (hn : numOf c = n) (hn2 : n < 1099511627776) (ht : Tab w) :
    Calls Tryd.prog 29 #[.int .u64 c] w fun e w' => e = .returned (.string (kindName 1 ++ digits n)) ∧ Keeps w w' [] := by
  have HR := Lib.hid hr
  have HK := Lib.hid hk
  have HN := Lib.hid hn
  have HT := Lib.hid ht
  have hs := digits_size n (by omega)
  have a1 : ∀ w, (Op.stringOp .add (⟨#[115, 116, 114, 32]⟩ : ByteArray) (digits n)).run Tryd.prog w = .ok (.string (kindName 1 ++ digits n)) w := fun w => run_string_add_sum (P := Tryd.prog) w _ _ (by have : (⟨#[115, 116, 114, 32]⟩ : ByteArray).size = 4 := rfl; omega)
  have a2 : ∀ w, (Op.stringOp .add ((⟨#[115, 116, 114]⟩ : ByteArray) ++ ⟨#[32]⟩) (digits n)).run Tryd.prog w = .ok (.string (kindName 1 ++ digits n)) w := a1
  clear hr hk hn ht hs
  go_enter Tryd.func29, Tryd.ntmps29
  go_wp2_with fail
  refine (right_any c _ h0 h1).mono ?_
  rintro e w' ⟨rfl, rfl⟩
  rw [HR.out]
  go_wp2_with fail
  go_region_held3 (fun w' => w'.cell? ⟨w.heap.size, 1, none⟩ = some (.string ⟨#[115, 116, 114]⟩) ∧ Keeps w w' [])
    (first | (exact ⟨by simp [go_sem], by first | assumption | exact ((Keeps.refl w []).alloc _).drew | exact (Keeps.refl w []).alloc _⟩) | (exact ⟨(hk2.cell (p := ⟨w.heap.size, 1, none⟩) (by simp) (by simp)).trans (by simp [go_sem]), Keeps.trans (by first | exact ((Keeps.refl w []).alloc _).drew | exact (Keeps.refl w []).alloc _) hk2⟩))
    (first
      | (go_at_call 43; refine (kind_any c _ h0 h1).mono ?_; rintro e w' ⟨rfl, rfl⟩; rw [HK.out])
      | (go_at_call 45; refine (number_any c _ h0 h1).mono ?_; rintro e w' ⟨rfl, rfl⟩; rw [HN.out])
      | (go_at_call 59; refine (ditoa_any n (by omega) _ (by exact HT.out.keep (((Keeps.refl w []).alloc _).drew))).mono ?_; rintro e w2 ⟨rfl, hk2⟩))
  all_goals
    go_wp2_with fail
    go_ret
    exact ⟨rfl, (by assumption : _ ∧ Keeps w w2 []).2⟩
theorem ctext9 (w : World) (ht : Tab w) : Calls Tryd.prog 29 #[.int .u64 9] w fun e w' => e = .returned (.string ⟨#[115, 116, 114, 32, 49]⟩) ∧ Keeps w w' [] := by
  have h := ctext1_any 9 1 w (by omega) (by omega) (by decide +kernel) (by decide +kernel) (by decide +kernel) (by omega) ht
  rw [show kindName 1 ++ digits 1 = ⟨#[115, 116, 114, 32, 49]⟩ by kernel_rfl] at h
  exact h
end Go.Proofs.YtnonfmaehfmigaaDoor

/- The program's reader: skip, want, while, number. -/
namespace Go.Proofs.YtnonfmaehfmigaaDoor
open Go.RowKit

theorem lt_cell6 {w : World} {a : Addr} {v : Value} (h : w.cell? a = some v) : a.block < w.heap.size := by
  unfold World.cell? at h
  cases hb : w.heap[a.block]? with
  | none => rw [hb] at h; simp at h
  | some o => exact (Array.getElem?_eq_some_iff.1 hb).1
theorem Keeps.past6 {a b c : World} {S T : List Nat} (h : Keeps a b S) (k : Keeps b c T) (hT : ∀ q, q ∈ T → q ∈ S ∨ a.heap.size ≤ q) : Keeps a c S :=
  ⟨k.os.trans h.os, k.tape.trans h.tape, k.output.trans h.output, Nat.le_trans h.size k.size, fun i hi hn => (k.block i (Nat.lt_of_lt_of_le hi h.size) (fun hm => by
    rcases hT i hm with h' | h'
    · exact hn h'
    · omega)).trans (h.block i hi hn)⟩
def insC6 (op : Int) (l : List Int) : Array Value := #[.int .i64 op, .int .i64 (l.getD 0 0), .int .i64 (l.getD 1 0), .int .i64 (l.getD 2 0), .int .i64 (l.getD 3 0)]
def atoiV : List UInt8 → Option Int := fun l => match Lib.atoiAll l with
  | .ok v => some v
  | _ => none
theorem dat_at (s : ByteArray) (j : Nat) (h : j < s.size) : s.data.toList[j]? = some s[j] := by
  rw [Array.getElem?_toList, Array.getElem?_eq_getElem h]
  rfl
theorem piece_is (s : ByteArray) (f i : Nat) : s.extract f i = stB ((s.data.toList.take i).drop f) := by
  have h : (s.extract f i).data.toList = (s.data.toList.take i).drop f := by rw [Lib.extract_data, List.drop_take]
  rw [← h, stB_of]

theorem tail_ext (s : ByteArray) : s.extract 1 s.size = stB s.data.toList.tail := by
  rw [piece_is, List.take_of_length_le (show s.data.toList.length ≤ s.size from Nat.le_refl _), List.drop_one]

theorem digC_any (c : UInt8) (w : World) : Calls Tryd.prog 87 #[.int .u8 (c.toNat : Int)] w fun e w' => e = .returned (.bool (isDig c)) ∧ w = w' := by
  have h := digit_any (c.toNat : Int) w
  rw [show isDigit (c.toNat : Int) = isDig c by simp only [isDigit, isDig]; congr 1 <;> (apply decide_eq_decide.2; omega)] at h
  exact h
theorem smC_any (c : UInt8) (w : World) : Calls Tryd.prog 84 #[.int .u8 (c.toNat : Int)] w fun e w' => e = .returned (.bool (isSm c)) ∧ w = w' := by
  have h := small_any (c.toNat : Int) w
  rw [show isSmall (c.toNat : Int) = isSm c by simp only [isSmall, isSm]; congr 1 <;> (apply decide_eq_decide.2; omega)] at h
  exact h
end Go.Proofs.YtnonfmaehfmigaaDoor

/- The program's reader: a variable's number. -/
namespace Go.Proofs.YtnonfmaehfmigaaDoor
open Go.RowKit

theorem atoi_pos {ds : Txt} (hd : ∀ c ∈ ds, isDig c = true) {v : Int} (h : Lib.atoiAll ds = .ok v) : 0 ≤ v ∧ v < 9223372036854775808 := by
  cases ds with
  | nil => simp [Lib.atoiAll] at h
  | cons c r =>
    have hc := hd c (by simp)
    simp only [isDig, Bool.and_eq_true, decide_eq_true_eq] at hc
    rw [Lib.atoiAll_plain c r (by omega) (by omega)] at h
    cases hp : Lib.parseMag (c :: r) with
    | ok u =>
      rw [hp] at h
      simp only [Lib.signless] at h
      split at h
      · cases h
      · cases h; omega
    | _ => rw [hp] at h; simp [Lib.signless] at h
theorem numP_some {l : Txt} {v : Nat} (h : Lib.atoiAll (l.takeWhile isDig) = .ok (v : Int)) : numP l = if Lib.decDigits v = l.takeWhile isDig then some ((v : Int), l.dropWhile isDig) else none := by
  unfold numP
  rw [h]
  by_cases hd : Lib.decDigits v = l.takeWhile isDig
  · simp [hd]
  · simp [hd]
theorem numP_none {l : Txt} (h : atoiV (l.takeWhile isDig) = none) : numP l = none := by
  unfold atoiV at h
  unfold numP
  split at h
  · cases h
  · rename_i hn
    split
    · rename_i v hv
      exact absurd hv (hn v)
    · rfl
end Go.Proofs.YtnonfmaehfmigaaDoor

/- The program's reader: terms. -/
namespace Go.Proofs.YtnonfmaehfmigaaDoor
open Go.RowKit

def wantO (c : UInt8) (o : Option Txt) : Option Txt := o.bind fun l => if l.head? = some c then some l.tail else none
theorem Tr.leaf (w : World) (S : Nat → Prop) (k n : Int) (s : ByteArray) (hs : s.size ≤ 9223372036854775807) : Tr w S (.mk k n s []) ⟨k, n, s, none, 0, 0⟩ :=
  .mk k n s [] none 0 [] rfl Rd.nil (fun b off e => by cases e) (fun _ => rfl) ⟨hs, by simp⟩ (fun j t v h => by simp at h)
/-- Setting a new block's cells. -/
theorem keeps_set4 {w : World} {L : List Nat} {wr : World} (k : Keeps w wr L) {g : Nat} (hg : w.heap.size ≤ g) (v0 v1 v2 v3 : Value) : Keeps w ((((wr.setCell ⟨g, 0, none⟩ v0).setCell ⟨g, 1, none⟩ v1).setCell ⟨g, 2, none⟩ v2).setCell ⟨g, 3, none⟩ v3) L :=
  (((k.setCell (.inr hg) _).setCell (.inr hg) _).setCell (.inr hg) _).setCell (.inr hg) _
theorem keeps_self4 (wr : World) (g : Nat) (v0 v1 v2 v3 : Value) : Keeps wr ((((wr.setCell ⟨g, 0, none⟩ v0).setCell ⟨g, 1, none⟩ v1).setCell ⟨g, 2, none⟩ v2).setCell ⟨g, 3, none⟩ v3) [g] :=
  ((((Keeps.refl wr [g]).setCell (.inl (by simp)) _).setCell (.inl (by simp)) _).setCell (.inl (by simp)) _).setCell (.inl (by simp)) _
def listR (p : Txt → Option (Tm × Txt)) (l : Txt) : Option (Tm × Txt) := (p l).bind fun x => if x.2.head? = some 124 then (p x.2.tail).bind fun y => if y.2.head? = some 93 then some (.mk 3 0 ⟨#[]⟩ [x.1, y.1], y.2.tail) else none else none
theorem listR_state (p : Txt → Option (Tm × Txt)) (l : Txt) : (listR p l).map (·.2) = wantO 93 (((wantO 124 ((p l).map (·.2))).bind p).map (·.2)) := by
  unfold listR wantO
  cases p l with
  | none => rfl
  | some x =>
    simp only [Option.bind_some, Option.map_some]
    split
    · simp only [Option.bind_some]
      cases p x.2.tail with
      | none => rfl
      | some y =>
        simp only [Option.bind_some, Option.map_some]
        split <;> rfl
    · rfl
theorem listR_some {p : Txt → Option (Tm × Txt)} {l : Txt} {z : Tm × Txt} (h : listR p l = some z) : ∃ x y, p l = some x ∧ (wantO 124 ((p l).map (·.2))).bind p = some y ∧ z.1 = .mk 3 0 ⟨#[]⟩ [x.1, y.1] := by
  unfold listR at h
  unfold wantO
  cases hx : p l with
  | none => rw [hx] at h; cases h
  | some x =>
    rw [hx] at h
    simp only [Option.bind_some, Option.map_some] at h ⊢
    split at h
    · rename_i h1
      rw [if_pos h1]
      simp only [Option.bind_some]
      cases hy : p x.2.tail with
      | none => rw [hy] at h; cases h
      | some y =>
        rw [hy] at h
        simp only [Option.bind_some] at h
        split at h
        · cases h; exact ⟨x, y, rfl, rfl, rfl⟩
        · cases h
    · cases h
theorem pair_tr {w4 : World} {S : Nat → Prop} {a b : Tm} {va vb : TV} (ha : Tr w4 S a va) (hb : Tr w4 S b vb) (hS : S w4.heap.size) (t : TypeId) :
    Tr (w4.alloc (.cells #[.int .i64 va.k, .int .i64 va.n, .string va.s, .slice va.A va.len va.c, .int .i64 vb.k, .int .i64 vb.n, .string vb.s, .slice vb.A vb.len vb.c] t)) S (.mk 3 0 ⟨#[]⟩ [a, b]) ⟨3, 0, ⟨#[]⟩, some ⟨w4.heap.size, 0, none⟩, 2, 2⟩ := by
  have k := (Keeps.refl w4 []).alloc (.cells #[.int .i64 va.k, .int .i64 va.n, .string va.s, .slice va.A va.len va.c, .int .i64 vb.k, .int .i64 vb.n, .string vb.s, .slice vb.A vb.len vb.c] t)
  refine .mk 3 0 ⟨#[]⟩ [a, b] (some ⟨w4.heap.size, 0, none⟩) 2 [va, vb] rfl (by have := Rd.of_blk (Blk.new w4 t #[.int .i64 va.k, .int .i64 va.n, .string va.s, .slice va.A va.len va.c, .int .i64 vb.k, .int .i64 vb.n, .string vb.s, .slice vb.A vb.len vb.c]); simpa [tvE] using this) (fun b off e _ => by cases e; exact hS) (fun e => by cases e) ⟨by decide, by simp⟩ (fun j t v h1 h2 => ?_)
  match j, h1, h2 with
  | 0, h1, h2 => simp at h1 h2; subst h1 h2; exact ha.keep k
  | 1, h1, h2 => simp at h1 h2; subst h1 h2; exact hb.keep k
  | j + 2, h1, _ => simp at h1

end Go.Proofs.YtnonfmaehfmigaaDoor
