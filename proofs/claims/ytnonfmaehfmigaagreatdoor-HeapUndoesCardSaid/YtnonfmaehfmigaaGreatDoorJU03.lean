/- A new heap; its names and cells, copied. Printed by gen_hpnew.py. -/
import Derived.Test.YtnonfmaehfmigaaGreatDoorJU02
import Derived.Shelf.SlMaps.DeleteFunc
namespace Go.Proofs.YtnonfmaehfmigaaGreatDoor
open Go.RowKit Go.Maps
/-- A copy of a row, of the call's own. -/
def CloneD (w : World) (elt : TypeId) (sz n : Nat) (vs : List Value) (e : Ending) (w' : World) : Prop :=
  ∃ A' c', e = .returned (.slice A' n c') ∧ w'.ownsRow w.heap.size elt sz (.slice A' n c') n vs ∧ Keeps w w' []
set_option maxRecDepth 20000 in
set_option maxHeartbeats 400000 in
theorem cloneS_any (A : Option Addr) (n c : Nat) (vs : List Value) (w : World) (hl : vs.length = n * 1) (hn : n ≤ 1000000) (hA : Rd w A vs) (hc : A = none → c = 0) (h1 : ∀ u ∈ vs, u.oneCell' = true) :
    Calls Tryz.prog 53 #[.slice A n c] w (CloneD w 9 1 n vs) := by
  cases A with
  | none =>
    obtain rfl := hc rfl
    have h0 : vs = [] := by
      cases vs with
      | nil => rfl
      | cons x t =>
        obtain ⟨b, off, v, e, _⟩ := hA 0 (by simp)
        cases e
    subst h0
    obtain rfl : n = 0 := by simp at hl; omega
    clear hA hn hc h1 hl
    have hne := Lib.run_eql_slice_nil (P := Tryz.prog)
    go_enter Tryz.func53, Tryz.ntmps53
    go_wp2_with fail
    go_ret
    exact ⟨none, 0, rfl, World.ownsRow_nil _ _ _ _, Keeps.refl _ _⟩
  | some A =>
  have HL := Lib.hid hl
  have HA := Lib.hid hA
  have H1 := Lib.hid h1
  have hne := Lib.run_eql_slice_nil (P := Tryz.prog)
  clear hl hA h1 hc
  go_enter Tryz.func53, Tryz.ntmps53
  go_wp2_with (at_builtin; refine wpList_app _ el_str rfl (.tmp 5) (.tmp 6) rfl w.heap.size (some ⟨w.heap.size, 0, none⟩) 0 0 [] rfl (World.ownsRow_made _ #[] 0 (Nat.le_refl _) (Nat.zero_le _) rfl) (some A) n c vs rfl (HA.out.alloc _) HL.out (fun hh => by cases hh) H1.out (by omega) (by simp) ?_; intro A' c' w1 hown hgrow hat)
  go_ret
  refine ⟨A', c', by simp, by simpa using hown, ((Keeps.refl w []).alloc _).grown hgrow (fun k hk => .inr (by simp [Value.ownBlock] at hk; omega))⟩
set_option maxRecDepth 20000 in
set_option maxHeartbeats 400000 in
theorem cloneF_any (A : Option Addr) (n c : Nat) (vs : List Value) (w : World) (hl : vs.length = n * 2) (hn : n ≤ 1000000) (hA : Rd w A vs) (hc : A = none → c = 0) (h1 : ∀ u ∈ vs, u.oneCell' = true) :
    Calls Tryz.prog 54 #[.slice A n c] w (CloneD w 106 2 n vs) := by
  cases A with
  | none =>
    obtain rfl := hc rfl
    have h0 : vs = [] := by
      cases vs with
      | nil => rfl
      | cons x t =>
        obtain ⟨b, off, v, e, _⟩ := hA 0 (by simp)
        cases e
    subst h0
    obtain rfl : n = 0 := by simp at hl; omega
    clear hA hn hc h1 hl
    have hne := Lib.run_eql_slice_nil (P := Tryz.prog)
    go_enter Tryz.func54, Tryz.ntmps54
    go_wp2_with fail
    go_ret
    exact ⟨none, 0, rfl, World.ownsRow_nil _ _ _ _, Keeps.refl _ _⟩
  | some A =>
  have HL := Lib.hid hl
  have HA := Lib.hid hA
  have H1 := Lib.hid h1
  have hne := Lib.run_eql_slice_nil (P := Tryz.prog)
  clear hl hA h1 hc
  go_enter Tryz.func54, Tryz.ntmps54
  go_wp2_with (at_builtin; refine wpList_app _ el_fun rfl (.tmp 5) (.tmp 6) rfl w.heap.size (some ⟨w.heap.size, 0, none⟩) 0 0 [] rfl (World.ownsRow_made _ #[] 0 (Nat.le_refl _) (Nat.zero_le _) rfl) (some A) n c vs rfl (HA.out.alloc _) HL.out (fun hh => by cases hh) H1.out (by omega) (by simp) ?_; intro A' c' w1 hown hgrow hat)
  go_ret
  refine ⟨A', c', by simp, by simpa using hown, ((Keeps.refl w []).alloc _).grown hgrow (fun k hk => .inr (by simp [Value.ownBlock] at hk; omega))⟩
/-- A heap that holds nothing. -/
def PH0 : PH := ⟨[], [], [], fun _ => none⟩
theorem PH0.ok : HOk PH0 := ⟨by simp [PH0], by simp [PH0], by simp [PH0], by simp [PH0], by simp [PH0]⟩
theorem PH0.vi : VI PH0 := ⟨by simp [PH0], by simp [PH0]⟩
def NewD (w : World) (room : Nat) (e : Ending) (w' : World) : Prop :=
  ∃ hb L, e = .returned (.tuple #[.pointer (some ⟨hb, 0, none⟩), .int .i64 0]) ∧ Hp w' w.heap.size hb L PH0 [] [] room ∧ (∀ b ∈ L, w.heap.size ≤ b) ∧ Keeps w w' []
set_option maxRecDepth 100000 in
set_option maxHeartbeats 1600000 in
theorem hnew_yes (room : Nat) (w : World) (hr : room ≤ 65536) : Calls Tryz.prog 22 #[.int .i64 room] w (NewD w room) := by
  have HC := Lib.hid (new_yes room w hr)
  have hmm := @run_makeMap Tryz.prog
  go_enter Tryz.func22, Tryz.ntmps22
  go_wp2_with fail
  refine HC.out.mono ?_
  rintro e w1 ⟨ag, ah, rfl, ha, hb⟩
  have HA := Lib.hid ha
  have HB := Lib.hid hb
  have hz := ha.lt
  have HZ := Lib.hid hz
  clear ha hb hz HC
  go_wp2_with fail
  go_ret2
  have hz := HZ.out
  have hk1 := Keeps.of_below HB.out []
  have hsz := hk1.size
  have hal := HA.out.low
  have hB : Blk ((w1.alloc (.map #[] 0)).alloc (.cells #[.pointer (some ⟨ag, 0, none⟩), .slice none 0 0, .slice none 0 0, .map (some w1.heap.size), .slice none 0 0, .slice none 0 0] 71)) (w1.heap.size + 1) 71 #[.pointer (some ⟨ag, 0, none⟩), .slice none 0 0, .slice none 0 0, .map (some w1.heap.size), .slice none 0 0, .slice none 0 0] := Blk.newAt _ _ (by simp)
  have hK : Keeps w1 ((w1.alloc (.map #[] 0)).alloc (.cells #[.pointer (some ⟨ag, 0, none⟩), .slice none 0 0, .slice none 0 0, .map (some w1.heap.size), .slice none 0 0, .slice none 0 0] 71)) [] := ((Keeps.refl w1 []).alloc _).alloc _
  refine ⟨w1.heap.size + 1, _, by simp, ⟨ag, ah, w1.heap.size, none, none, none, none, 0, 0, 0, 0, 0, 0, rfl, ⟨by simpa [PH0] using hB, HA.out.keep hK (by simp) (by simp), World.ownsRow_nil _ _ _ _, World.ownsRow_nil _ _ _ _, (VM.made w1).kept ((Keeps.refl _ []).alloc _) (by simp), World.ownsRow_nil _ _ _ _, World.ownsRow_nil _ _ _ _, ⟨by omega, hsz⟩, ⟨by simp [PH0], by simp [PH0]⟩⟩⟩, ?_, hk1.trans hK⟩
  intro b hb'
  simp [hpL, ownL, Value.ownBlock] at hb'
  rcases hb' with rfl | rfl | rfl | rfl
  · omega
  · exact hal
  · exact hz.2.2.2
  · exact hsz
set_option maxRecDepth 100000 in
set_option maxHeartbeats 1600000 in
theorem hnew_no (room : Int) (w : World) (hr : room < 0 ∨ 65536 < room) : Calls Tryz.prog 22 #[.int .i64 room] w fun e w' => e = .returned (.tuple #[.pointer none, .int .i64 1]) ∧ w = w' := by
  have HC := Lib.hid (new_no room w hr)
  clear hr
  go_enter Tryz.func22, Tryz.ntmps22
  go_wp2_with fail
  refine HC.out.mono ?_
  rintro e w1 ⟨rfl, rfl⟩
  go_wp2_with fail
  go_ret2
  exact ⟨rfl, rfl⟩
section
variable {w : World} {base hb ag ah vb : Nat} {AA FA TA MA : Option Addr} {ca nt ct nm cm cf : Nat} {H : PH} {tr : List Int} {mk : List (Int × Int)} {room : Nat}
set_option maxRecDepth 100000 in
set_option maxHeartbeats 1600000 in
theorem hcells_any (hm : Hm w base hb ag ah vb AA FA TA MA ca nt ct nm cm cf H tr mk room) : Calls Tryz.prog 8 #[.pointer (some ⟨hb, 0, none⟩)] w (Copied w 28 H.cells) := by
  have HC := Lib.hid (cells_any hm.ar)
  have x0 := hm.blk.cell 0
  clear hm
  go_enter Tryz.func8, Tryz.ntmps8
  go_wp2_with fail
  refine HC.out.mono ?_
  rintro e w1 ⟨A', c', rfl, hown, hb1⟩
  clear x0 HC
  go_wp2_with fail
  go_ret
  exact ⟨A', c', rfl, hown, hb1⟩
def NamesD (w : World) (H : PH) (e : Ending) (w' : World) : Prop :=
  ∃ A c A' c', e = .returned (.agg #[.slice A H.atoms.length c, .slice A' H.funs.length c']) ∧ Rd w' A (H.atoms.map Value.string) ∧ Rd w' A' (H.funs.flatMap funE) ∧ Keeps w w' []
set_option maxRecDepth 100000 in
set_option maxHeartbeats 1600000 in
theorem hnames_any (hm : Hm w base hb ag ah vb AA FA TA MA ca nt ct nm cm cf H tr mk room) : Calls Tryz.prog 26 #[.pointer (some ⟨hb, 0, none⟩)] w (NamesD w H) := by
  have HS := Lib.hid (fun (W : World) (kk : Keeps w W []) => cloneS_any AA H.atoms.length ca (H.atoms.map Value.string) W (by simp) hm.few.1 ((Rd.of_own hm.atoms).keep kk) (fun e => by subst e; exact own_zeroN hm.atoms) (by intro u hu; obtain ⟨x, _, rfl⟩ := List.mem_map.1 hu; rfl))
  have HF := Lib.hid (fun (W : World) (kk : Keeps w W []) => cloneF_any FA H.funs.length cf (H.funs.flatMap funE) W (length_flat funE_len _) hm.few.2 ((Rd.of_own hm.funs).keep kk) (fun e => by subst e; exact own_zeroN hm.funs) (funE_one _))
  have hK0 : Keeps w (w.alloc (.cells #[.slice none 0 0, .slice none 0 0] 65)) [] := (Keeps.refl w []).alloc _
  have hG0 : Blk (w.alloc (.cells #[.slice none 0 0, .slice none 0 0] 65)) w.heap.size 65 #[.slice none 0 0, .slice none 0 0] := Blk.new _ _ _
  have HK0 := Lib.hid hK0
  have HG0 := Lib.hid hG0
  have HZ := Lib.hid hG0.lt
  have HW : Hid (∀ W, Keeps (w.alloc (.cells #[.slice none 0 0, .slice none 0 0] 65)) W [] → (W.cell? ⟨hb, 1, none⟩ = some (.slice AA H.atoms.length ca) ∧ W.cell? ⟨hb, 2, none⟩ = some (.slice FA H.funs.length cf)) ∧ (W.cell? ⟨w.heap.size, 0, none⟩ = some (.slice none 0 0) ∧ W.cell? ⟨w.heap.size, 1, none⟩ = some (.slice none 0 0)) ∧ W.frozen? ⟨w.heap.size, 0, none⟩ = false ∧ W.frozen? ⟨w.heap.size, 1, none⟩ = false) := fun W kk =>
    have hb1 := hm.blk.keep (HK0.out.trans kk) (by simp)
    have hg1 := HG0.out.keep kk (by simp)
    ⟨⟨hb1.cell 1, hb1.cell 2⟩, ⟨hg1.cell 0, hg1.cell 1⟩, hg1.frozen 0, hg1.frozen 1⟩
  clear hK0 hG0 hm HG0
  go_enter Tryz.func26, Tryz.ntmps26
  go_upto_region 3 with fail
  generalize (w.alloc (.cells #[.slice none 0 0, .slice none 0 0] 65)) = w0 at HK0 HW HZ ⊢
  obtain ⟨⟨q0, q1⟩, ⟨q2, q3⟩, q4, q5⟩ := HW.out w0 (Keeps.refl _ _)
  refine wp_region_tx (fun W' => (W'.cell? ⟨hb, 1, none⟩ = some (.slice AA H.atoms.length ca) ∧ W'.cell? ⟨hb, 2, none⟩ = some (.slice FA H.funs.length cf)) ∧ (W'.cell? ⟨w.heap.size, 0, none⟩ = some (.slice none 0 0) ∧ W'.cell? ⟨w.heap.size, 1, none⟩ = some (.slice none 0 0)) ∧ W'.frozen? ⟨w.heap.size, 0, none⟩ = false ∧ W'.frozen? ⟨w.heap.size, 1, none⟩ = false) [(0, true), (1, true), (2, true), (3, true), (4, true), (6, true), (7, true), (8, true), (9, true), (10, true), (5, false), (11, false), (12, true), (13, false)] (by kernel_rfl) (by kernel_rfl) (HW.out _ (Keeps.refl _ _).drew) (fun hHeld => ?_)
  (repeat (first | (refine wpTx_take (v := ?_) rfl (by assumption) ?_ (by rfl) ?_; rotate_left; (focus (intro w' hSw; (try dsimp only at hSw); go_simp; (try with_reducible rfl); done)); simp only [Act.put, List.setIfInBounds_toArray, List.set_cons_zero, List.set_cons_succ]) | (refine wpTx_skip rfl (by assumption) (by rfl) ?_; simp only [Act.put, List.setIfInBounds_toArray, List.set_cons_zero, List.set_cons_succ])))
  refine wpTx_go rfl (fun K hK => ?_)
  go_simp
  refine (HS.out _ HK0.out.drew).mono ?_
  rintro e w1 ⟨A, c, rfl, o1, k1⟩
  have HK1 := Lib.hid ((Keeps.refl w0 []).drew.trans k1)
  have HO1 := Lib.hid o1
  clear o1 k1
  refine hK.out _ _ ?_ ?_
  · exact HW.out _ HK1.out
  (clear hHeld; intro hHeld; clear hK K; (try simp only [Act.put, List.setIfInBounds_toArray, List.set_cons_zero, List.set_cons_succ]))
  refine wpTx_go rfl (fun K hK => ?_)
  go_simp
  refine (HF.out _ (HK0.out.trans HK1.out)).mono ?_
  rintro e w2 ⟨A', c', rfl, o2, k2⟩
  have HK2 := Lib.hid (HK1.out.trans k2)
  have HR1 := Lib.hid (own_keep0 HO1.out k2)
  have HR2 := Lib.hid o2
  have HZ1 := Lib.hid HK1.out.size
  clear o2 k2
  refine hK.out _ _ ?_ ?_
  · exact HW.out _ HK2.out
  (clear hHeld; intro hHeld; clear hK K; (try simp only [Act.put, List.setIfInBounds_toArray, List.set_cons_zero, List.set_cons_succ]))
  (repeat (first | (refine wpTx_take (v := ?_) rfl (by assumption) ?_ (by rfl) ?_; rotate_left; (focus (intro w' hSw; (try dsimp only at hSw); go_simp; (try with_reducible rfl); done)); simp only [Act.put, List.setIfInBounds_toArray, List.set_cons_zero, List.set_cons_succ]) | (refine wpTx_skip rfl (by assumption) (by rfl) ?_; simp only [Act.put, List.setIfInBounds_toArray, List.set_cons_zero, List.set_cons_succ])))
  refine wpTx_last rfl (fun K hK => ?_)
  go_simp
  refine hK.out _ _ (NoPanic.normal ?_); clear hK K; (try simp only [Act.put, List.setIfInBounds_toArray, List.set_cons_zero, List.set_cons_succ])
  have hz := HZ.out
  have hz1 := HZ1.out
  have hne : ∀ (B m cc : Nat) (D : Option Addr) (e : TypeId) (sz : Nat) (xs : List Value) (W : World), w0.heap.size ≤ B → W.ownsRow B e sz (.slice D m cc) m xs → w.heap.size ∉ ownL (.slice D m cc) := fun B m cc D e sz xs W hB ho hm' => by
    have := (own_lt ho hm').1
    omega
  have HP : Hid (∀ v0 v1, NamesD w H (.returned (.agg #[.slice A H.atoms.length c, .slice A' H.funs.length c'])) ((w2.setCell ⟨w.heap.size, 0, none⟩ v0).setCell ⟨w.heap.size, 1, none⟩ v1)) := fun v0 v1 =>
    ⟨A, c, A', c', rfl, Rd.of_own (own_setN (own_setN HR1.out (hne _ _ _ _ _ _ _ _ (by simp) HR1.out) 0 v0) (hne _ _ _ _ _ _ _ _ (by simp) HR1.out) 1 v1), Rd.of_own (own_setN (own_setN HR2.out (hne _ _ _ _ _ _ _ _ hz1 HR2.out) 0 v0) (hne _ _ _ _ _ _ _ _ hz1 HR2.out) 1 v1), ((HK0.out.trans HK2.out).setCell (.inr (Nat.le_refl _)) _).setCell (.inr (Nat.le_refl _)) _⟩
  clear hne hz hz1 q0 q1 q2 q3 q4 q5
  go_wp2_with fail
  exact bodyPost_ret (v := .agg #[.slice A H.atoms.length c, .slice A' H.funs.length c']) (by simp [results, Tryz.results26, go_sem, *]) rfl (HP.out _ _)
end
end Go.Proofs.YtnonfmaehfmigaaGreatDoor

/- What is laid keeps a heap right; how much comes; what a built cell is read as. No program in sight. -/
namespace Go.Proofs.YtnonfmaehfmigaaGreatDoor

theorem cell_mk {k n : Int} (h0 : 0 ≤ k) (h1 : k ≤ 4) (h2 : 0 ≤ n) (h3 : n < 1099511627776) : right (n * 8 + k) = true ∧ kindOf (n * 8 + k) = k ∧ numOf (n * 8 + k) = n := by
  have hr : right (n * 8 + k) = true := (right_iff _).2 ⟨by omega, by omega⟩
  unfold kindOf numOf
  rw [if_pos hr, if_pos hr]
  exact ⟨hr, by omega, by omega⟩
/-- A cell that may be put behind. -/
structure RefC (H : PH) (c : Int) : Prop where
  rt : right c = true
  ref : kindOf c = 0 → numOf c < H.cells.length
theorem RefC.mono {H H' : PH} (h : H.le H') {c : Int} (k : RefC H c) : RefC H' c := ⟨k.rt, fun e => by have := k.ref e; have := h.cells.length_le; omega⟩
theorem HOk.vb {H : PH} (h : HOk H) : VB H := ⟨h.vars⟩
theorem HOk.app {H : PH} (h : HOk H) {cs : List Int} (hc : ∀ c ∈ cs, Go.Proofs.YtnonfmaehfmigaaGreatDoor.right c = true ∧ (kindOf c = 0 → numOf c ≤ H.cells.length)) {F : List (ByteArray × Int)} (hF : ∀ x ∈ F, (0 ≤ x.2 ∧ x.2 ≤ 1000) ∧ x.1.size ≤ 9223372036854775807) {A : List ByteArray} (hA : ∀ s ∈ A, s.size ≤ 9223372036854775807) {V : Int → Option Int} (hV : ∀ n p, V n = some p → ∃ q : Nat, p = q ∧ q < H.cells.length + cs.length) : HOk { cells := H.cells ++ cs, atoms := A, funs := F, vars := V } := by
  refine ⟨fun x hx => ?_, fun p x hx hk => ?_, fun n p hp => ?_, fun x hx => (hF x hx).1, ⟨hA, fun x hx => (hF x hx).2⟩⟩
  · rcases List.mem_append.1 hx with hx | hx
    · exact h.right x hx
    · exact (hc x hx).1
  · have hx' : (H.cells ++ cs)[p]? = some x := hx
    by_cases hp : p < H.cells.length
    · rw [List.getElem?_append_left hp] at hx'
      exact h.refs p x hx' hk
    · rw [List.getElem?_append_right (by omega)] at hx'
      have := (hc x (List.mem_of_getElem? hx')).2 hk
      omega
  · obtain ⟨q, e, hq⟩ := hV n p hp
    exact ⟨q, e, by show q < (H.cells ++ cs).length; rw [List.length_append]; exact hq⟩
theorem numL_mem {α : Type} [DecidableEq α] {l : List α} {x y : α} (h : y ∈ numL l x) : y ∈ l ∨ y = x := by
  unfold numL at h
  split at h
  · exact .inl h
  · rcases List.mem_append.1 h with h | h
    · exact .inl h
    · exact .inr (by simpa using h)
theorem name_size {s : ByteArray} (h : nameOk s = true) : s.size ≤ 9223372036854775807 := by
  have := (name_bytes h).2.2.2.2
  have e : s.size = s.data.toList.length := by rw [Array.length_toList]; rfl
  omega
def LayH (room : Nat) (H : PH) (t : Tm) : Prop := FitR room (lay H t).1 → HOk (lay H t).1 ∧ RefC (lay H t).1 (lay H t).2
theorem lays_hok {room : Nat} : ∀ (l : List Tm), (∀ a ∈ l, ∀ H, HOk H → LayH room H a) → ∀ H, HOk H → FitR room (lays H l).1 → HOk (lays H l).1 ∧ ∀ c ∈ (lays H l).2, RefC (lays H l).1 c
  | [], _, H, h, _ => by rw [lays]; exact ⟨h, fun c hc => by simp at hc⟩
  | a :: l, ih, H, h, hf => by
    have h1 := layB_ok a H h.vb
    have h2 := laysB_ok l (fun a _ H v => layB_ok a H v) _ h1.2
    rw [lays] at hf ⊢
    obtain ⟨g1, g2⟩ := ih a (by simp) H h (hf.le h2.1)
    obtain ⟨k1, k2⟩ := lays_hok l (fun b hb => ih b (by simp [hb])) _ g1 hf
    refine ⟨k1, fun c hc => ?_⟩
    rcases List.mem_cons.1 hc with rfl | hc
    · exact g2.mono h2.1
    · exact k2 c hc
theorem lay_hok {room : Nat} (hr : room ≤ 65536) (t : Tm) : tRight t = true → ∀ H, HOk H → LayH room H t := by
  induction t using Tm.ind_ with
  | h k n s l ih =>
    intro ht H h hf
    rw [lay] at hf ⊢
    by_cases h0 : k = 0
    · rw [if_pos h0] at hf ⊢
      unfold layV at hf ⊢
      cases hv : H.vars n with
      | some p =>
        rw [hv] at hf
        obtain ⟨q, rfl, hq⟩ := h.vars n p hv
        have h1 : H.cells.length ≤ room := hf.1
        have h2 := cell_mk (k := 0) (n := (q : Int)) (by omega) (by omega) (by omega) (by omega)
        simp only [Int.add_zero] at h2
        exact ⟨h, ⟨h2.1, fun _ => by rw [h2.2.2]; exact_mod_cast hq⟩⟩
      | none =>
        rw [hv] at hf
        have h1 := hf.1
        simp at h1
        have h2 := cell_mk (k := 0) (n := (H.cells.length : Int)) (by omega) (by omega) (by omega) (by omega)
        simp only [Int.add_zero] at h2
        refine ⟨h.app (fun c hc => ?_) (fun x hx => ⟨h.funs x hx, h.sizes.2 x hx⟩) h.sizes.1 (fun m p hp => ?_), ⟨h2.1, fun _ => by rw [h2.2.2]; simp; omega⟩⟩
        · obtain rfl := List.mem_singleton.1 hc
          exact ⟨h2.1, fun _ => by rw [h2.2.2]; exact Int.le_refl _⟩
        · unfold putV at hp
          split at hp
          · exact ⟨H.cells.length, (Option.some.inj hp).symm, by simp⟩
          · obtain ⟨q, e, hq⟩ := h.vars m p hp
            exact ⟨q, e, by simp; omega⟩
    · rw [if_neg h0] at hf ⊢
      by_cases h1 : k = 1
      · rw [if_pos h1] at hf ⊢
        have h2 := hf.2.1
        have h3 := numI_lt H.atoms s
        simp only at h2
        have h4 := cell_mk (k := 2) (n := (numI H.atoms s : Int)) (by omega) (by omega) (by omega) (by omega)
        have hs : s.size ≤ 9223372036854775807 := by
          rw [tRight, Bool.and_eq_true, if_neg h0, if_pos h1] at ht
          obtain ⟨_, ht⟩ := ht
          simp only [Bool.and_eq_true] at ht
          exact name_size ht.1.2
        exact ⟨⟨h.right, h.refs, h.vars, h.funs, ⟨fun x hx => (numL_mem hx).elim (h.sizes.1 x) (fun e => by rw [e]; exact hs), h.sizes.2⟩⟩, ⟨h4.1, fun e => by rw [h4.2.1] at e; omega⟩⟩
      · rw [if_neg h1] at hf ⊢
        have hrp := right_parts ht
        have hB := laysB_ok l (fun a _ H v => layB_ok a H v) H h.vb
        simp only at hf ⊢
        by_cases h2 : k = 2
        · rw [if_pos h2] at hf ⊢
          have hle : (lays H l).1.le { (lays H l).1 with funs := numL (lays H l).1.funs (s, (l.length : Int)), cells := (lays H l).1.cells ++ ((numI (lays H l).1.funs (s, (l.length : Int)) : Int) * 8 + 4) :: (lays H l).2 } := ⟨List.prefix_append _ _, List.prefix_refl _, numL_pre _ _, fun _ _ h => h⟩
          obtain ⟨g1, g2⟩ := lays_hok l (fun a ha H hH => ih a ha (hrp a ha) H hH) H h (hf.le hle)
          have hc1 := hf.1
          have hf1 := hf.2.2
          simp at hc1 hf1
          have h3 := numI_lt (lays H l).1.funs (s, (l.length : Int))
          have h4 := cell_mk (k := 4) (n := (numI (lays H l).1.funs (s, (l.length : Int)) : Int)) (by omega) (by omega) (by omega) (by omega)
          have h5 := cell_mk (k := 1) (n := ((lays H l).1.cells.length : Int)) (by omega) (by omega) (by omega) (by omega)
          have hsl : s.size ≤ 9223372036854775807 ∧ l.length ≤ 8 := by
            rw [tRight, Bool.and_eq_true, if_neg h0, if_neg h1, if_pos h2] at ht
            obtain ⟨_, ht⟩ := ht
            simp only [Bool.and_eq_true, decide_eq_true_eq] at ht
            exact ⟨name_size (by first | exact ht.1.2 | exact ht.1.1.2 | exact ht.2.1.1 | exact ht.1.1 | exact ht.1), by omega⟩
          refine ⟨g1.app (fun c hc => ?_) (fun x hx => ?_) g1.sizes.1 (fun m p hp => ?_), ⟨h5.1, fun e => by rw [h5.2.1] at e; omega⟩⟩
          · rcases List.mem_cons.1 hc with rfl | hc
            · exact ⟨h4.1, fun e => by rw [h4.2.1] at e; omega⟩
            · exact ⟨(g2 c hc).rt, fun e => by have := (g2 c hc).ref e; omega⟩
          · rcases numL_mem hx with hx | rfl
            · exact ⟨g1.funs x hx, g1.sizes.2 x hx⟩
            · exact ⟨⟨by simp, by simp; omega⟩, hsl.1⟩
          · obtain ⟨q, e, hq⟩ := g1.vars m p hp
            exact ⟨q, e, by omega⟩
        · rw [if_neg h2] at hf ⊢
          have hle : (lays H l).1.le { (lays H l).1 with cells := (lays H l).1.cells ++ (lays H l).2 } := ⟨List.prefix_append _ _, List.prefix_refl _, List.prefix_refl _, fun _ _ h => h⟩
          obtain ⟨g1, g2⟩ := lays_hok l (fun a ha H hH => ih a ha (hrp a ha) H hH) H h (hf.le hle)
          have hc1 := hf.1
          simp at hc1
          have h5 := cell_mk (k := 3) (n := ((lays H l).1.cells.length : Int)) (by omega) (by omega) (by omega) (by omega)
          refine ⟨g1.app (fun c hc => ⟨(g2 c hc).rt, fun e => by have := (g2 c hc).ref e; omega⟩) (fun x hx => ⟨g1.funs x hx, g1.sizes.2 x hx⟩) g1.sizes.1 (fun m p hp => ?_), ⟨h5.1, fun e => by rw [h5.2.1] at e; omega⟩⟩
          obtain ⟨q, e, hq⟩ := g1.vars m p hp
          exact ⟨q, e, by omega⟩
/-! ### How much comes -/
structure Grow (H H' : PH) (m : Nat) : Prop where
  cells : H'.cells.length ≤ H.cells.length + 2 * m
  atoms : H'.atoms.length ≤ H.atoms.length + m
  funs : H'.funs.length ≤ H.funs.length + m
theorem lays_grow : ∀ (l : List Tm), (∀ a ∈ l, ∀ H, Grow H (lay H a).1 (tSize a) ∧ (lay H a).1.cells.length + 1 ≤ H.cells.length + 2 * tSize a) → ∀ H, Grow H (lays H l).1 (tSizes l) ∧ (lays H l).1.cells.length + l.length ≤ H.cells.length + 2 * tSizes l
  | [], _, H => by rw [lays]; exact ⟨⟨by simp, by simp, by simp⟩, by simp⟩
  | a :: l, ih, H => by
    obtain ⟨⟨a1, a2, a3⟩, a4⟩ := ih a (by simp) H
    obtain ⟨⟨b1, b2, b3⟩, b4⟩ := lays_grow l (fun b hb => ih b (by simp [hb])) (lay H a).1
    rw [lays, tSizes]
    simp only [List.length_cons]
    exact ⟨⟨by omega, by omega, by omega⟩, by omega⟩
theorem lay_grow (t : Tm) : ∀ H, Grow H (lay H t).1 (tSize t) ∧ (lay H t).1.cells.length + 1 ≤ H.cells.length + 2 * tSize t := by
  induction t using Tm.ind_ with
  | h k n s l ih =>
    intro H
    have hs := tSize_pos (.mk k n s l)
    rw [lay]
    split
    · unfold layV
      cases H.vars n with
      | some p => exact ⟨⟨by simp, by simp, by simp⟩, by simp only; omega⟩
      | none => exact ⟨⟨by simp; omega, by simp, by simp⟩, by simp; omega⟩
    · split
      · have := numL_len H.atoms s
        exact ⟨⟨by simp, by simp only; omega, by simp⟩, by simp only; omega⟩
      · obtain ⟨⟨a1, a2, a3⟩, a4⟩ := lays_grow l ih H
        have h1 := lays_len H l
        have h2 := numL_len (lays H l).1.funs (s, (l.length : Int))
        rw [tSize]
        simp only
        split
        · exact ⟨⟨by simp; omega, by simp only; omega, by simp only; omega⟩, by simp; omega⟩
        · exact ⟨⟨by simp; omega, by simp only; omega, by simp only; omega⟩, by simp; omega⟩
/-! ### What a built cell is read as -/
theorem Rp.rg {room : Nat} (hr : room ≤ 65536) {H : PH} (hf : FitR room H) {c : Int} {t : Tm} (h : Rp H c t) : Rg H c t := by
  have h1 := hf.1
  have h2 := hf.2.1
  induction h with
  | var p h =>
    have hp := (List.getElem?_eq_some_iff.1 h).1
    have h4 := cell_mk (k := 0) (n := (p : Int)) (by omega) (by omega) (by omega) (by omega)
    simp only [Int.add_zero] at h4
    have h5 : derefP H ((p : Int) * 8) = some ((p : Int) * 8) := deref_of_self h4.2.1 (by rw [h4.2.2, Int.toNat_natCast]; exact h)
    have h6 := Rg.var _ _ h5 h4.2.1
    rw [h4.2.2] at h6
    exact h6
  | con i s h =>
    have hp := (List.getElem?_eq_some_iff.1 h).1
    have h4 := cell_mk (k := 2) (n := (i : Int)) (by omega) (by omega) (by omega) (by omega)
    exact .con _ _ s (deref_of_non (by rw [h4.2.1]; omega)) h4.2.1 (by rw [h4.2.2, Int.toNat_natCast]; exact h)
  | lis p l cs hl hcs ha h ih =>
    have hp := (List.getElem?_eq_some_iff.1 (ha 0 _ (List.getElem?_eq_getElem (by omega)))).1
    have h4 := cell_mk (k := 3) (n := (p : Int)) (by omega) (by omega) (by omega) (by omega)
    have hpar : partsP H ((p : Int) * 8 + 3) = cs := by
      unfold partsP
      rw [if_neg (by rw [h4.2.1]; omega), h4.2.2, Int.toNat_natCast]
      refine List.ext_getElem? fun j => ?_
      by_cases hj : j < 2
      · have hc : cs[j]? = some cs[j] := List.getElem?_eq_getElem (by omega)
        rw [List.getElem?_map, List.getElem?_range hj, hc]
        simp only [Option.map_some, Option.some.injEq]
        unfold cellP
        rw [ha j _ hc]
        rfl
      · rw [List.getElem?_eq_none (by simp; omega), List.getElem?_eq_none (by omega)]
    have h6 := Rg.cmp _ _ l (deref_of_non (H := H) (by rw [h4.2.1]; omega)) (.inr h4.2.1) (fun e => by rw [h4.2.1] at e; omega) (by rw [hpar]; exact hcs.symm) (fun j t x hj hx => ih j t x hj (by rw [hpar] at hx; exact hx))
    rw [if_neg (by rw [h4.2.1]; omega), if_neg (by rw [h4.2.1]; omega)] at h6
    exact h6
  | str p i s l cs hl hg hi hcs ha h ih =>
    have hp := (List.getElem?_eq_some_iff.1 hg).1
    have hii := (List.getElem?_eq_some_iff.1 hi).1
    have h3 := hf.2.2
    have h4 := cell_mk (k := 1) (n := (p : Int)) (by omega) (by omega) (by omega) (by omega)
    have h5 := cell_mk (k := 4) (n := (i : Int)) (by omega) (by omega) (by omega) (by omega)
    have hfun : funP H ((p : Int) * 8 + 1) = some (s, (l.length : Int)) := by
      unfold funP
      rw [h4.2.2, Int.toNat_natCast, hg]
      simp only
      rw [if_pos h5.2.1, h5.2.2, Int.toNat_natCast]
      exact hi
    have hpar : partsP H ((p : Int) * 8 + 1) = cs := by
      unfold partsP
      rw [if_pos h4.2.1, hfun, h4.2.2, Int.toNat_natCast]
      simp only [Int.toNat_natCast]
      refine List.ext_getElem? fun j => ?_
      by_cases hj : j < l.length
      · have hc : cs[j]? = some (cs[j]'(by omega)) := List.getElem?_eq_getElem (by omega)
        rw [List.getElem?_map, List.getElem?_range hj, hc]
        simp only [Option.map_some, Option.some.injEq]
        unfold cellP
        rw [ha j _ hc]
        rfl
      · rw [List.getElem?_eq_none (by simp; omega), List.getElem?_eq_none (by omega)]
    have hne : cs ≠ [] := fun e => hl (List.length_eq_zero_iff.1 (by rw [← hcs, e]; rfl))
    have h6 := Rg.cmp _ _ l (deref_of_non (H := H) (by rw [h4.2.1]; omega)) (.inl h4.2.1) (fun _ => by rw [hpar]; exact hne) (by rw [hpar]; exact hcs.symm) (fun j t x hj hx => ih j t x hj (by rw [hpar] at hx; exact hx))
    rw [if_pos h4.2.1, if_pos h4.2.1] at h6
    unfold nameP at h6
    rw [hfun] at h6
    exact h6
end Go.Proofs.YtnonfmaehfmigaaGreatDoor

/- How two cells are made one, and gone back: the plain law. No program in sight. -/
namespace Go.Proofs.YtnonfmaehfmigaaGreatDoor

/-- How many cells there were at the last mark (none: 0). -/
def mkC (mk : List (Int × Int)) : Int := (mk.getLast?.map (·.1)).getD 0
/-- A heap, and its trail. -/
def bindP (mk : List (Int × Int)) (S : PH × List Int) (p : Nat) (c : Int) : PH × List Int :=
  ({ S.1 with cells := S.1.cells.set p c }, if (p : Int) < mkC mk then S.2 ++ [(p : Int)] else S.2)
def meetP (mk : List (Int × Int)) (S : PH × List Int) (x y : Int) : Option ((PH × List Int) × List (Int × Int)) :=
  if x = y then some (S, [])
  else if kindOf x = 0 ∧ (kindOf y ≠ 0 ∨ numOf y < numOf x) then some (bindP mk S (numOf x).toNat y, [])
  else if kindOf y = 0 then some (bindP mk S (numOf y).toNat x, [])
  else if kindOf x ≠ kindOf y ∨ kindOf x = 2 then none
  else if kindOf x = 1 ∧ cellP S.1 (numOf x).toNat ≠ cellP S.1 (numOf y).toNat then none
  else some (S, (partsP S.1 x).zip (partsP S.1 y))
/-- .. as long as there are pairs, and steps: is it one, what is wrong. -/
def unifyP (mk : List (Int × Int)) : Nat → PH × List Int → List (Int × Int) → (PH × List Int) × (Bool × Int)
  | _, S, [] => (S, (true, 0))
  | 0, S, _ :: _ => (S, (false, 2))
  | f + 1, S, p :: st =>
    match derefP S.1 p.1, derefP S.1 p.2 with
    | some x, some y => (match meetP mk S x y with
      | none => (S, (false, 0))
      | some r => unifyP mk f r.1 (r.2 ++ st))
    | _, _ => (S, (false, 1))
/-- A cell that comes to itself. -/
structure Top (H : PH) (x : Int) : Prop where
  low : 0 ≤ x
  up : x < 18446744073709551616
  rt : right x = true
  self : kindOf x = 0 → H.cells[(numOf x).toNat]? = some x
theorem Top.of {H : PH} (h : HOk H) (hb : ∀ x ∈ H.cells, 0 ≤ x ∧ x < 18446744073709551616) {c d : Int} (h0 : 0 ≤ c) (h1 : c < 18446744073709551616) (hr : right c = true) (hd : derefP H c = some d) : Top H d := by
  have h2 := deref_is h hb _ c d (Nat.le_refl _) h0 h1 hr hd
  exact ⟨h2.1, h2.2.1, h2.2.2.1, h2.2.2.2.2⟩
/-- What a step keeps. -/
structure Kept (H H' : PH) : Prop where
  len : H'.cells.length = H.cells.length
  atoms : H'.atoms = H.atoms
  funs : H'.funs = H.funs
  vars : H'.vars = H.vars
theorem Kept.refl (H : PH) : Kept H H := ⟨rfl, rfl, rfl, rfl⟩
theorem Kept.trans {A B C : PH} (h : Kept A B) (k : Kept B C) : Kept A C := ⟨k.len.trans h.len, k.atoms.trans h.atoms, k.funs.trans h.funs, k.vars.trans h.vars⟩
/-- Behind a mark: cells that were there are as they were, or in the trail, and were variables. -/
structure UInv (C0 : List Int) (H : PH) (tr : List Int) : Prop where
  len : C0.length ≤ H.cells.length
  trs : ∀ p ∈ tr, ∃ q : Nat, p = q ∧ C0[q]? = some ((q : Int) * 8)
  same : ∀ q : Nat, q < C0.length → (q : Int) ∉ tr → H.cells[q]? = C0[q]?
theorem UInv.start (H : PH) : UInv H.cells H [] := ⟨Nat.le_refl _, (fun p hp => by cases hp), fun _ _ _ => rfl⟩
theorem hok_set {H : PH} (h : HOk H) {p : Nat} {c : Int} (hr : right c = true) (hc : kindOf c = 0 → numOf c ≤ p) : HOk { H with cells := H.cells.set p c } := by
  refine ⟨fun x hx => ?_, fun q x hx hk => ?_, fun n q hq => ?_, h.funs, h.sizes⟩
  · rcases List.mem_or_eq_of_mem_set hx with hx | rfl
    · exact h.right x hx
    · exact hr
  · have hx' : (H.cells.set p c)[q]? = some x := hx
    rw [List.getElem?_set] at hx'
    split at hx'
    · rename_i e
      subst e
      split at hx'
      · obtain rfl := Option.some.inj hx'
        exact hc hk
      · cases hx'
    · exact h.refs q x hx' hk
  · obtain ⟨z, e, hz⟩ := h.vars n q hq
    exact ⟨z, e, by show z < (H.cells.set p c).length; rw [List.length_set]; exact hz⟩
/-- A variable is bound. -/
structure BindOk (mk : List (Int × Int)) (S S' : PH × List Int) : Prop where
  ok : HOk S'.1
  kept : Kept S.1 S'.1
  bytes : (∀ x ∈ S.1.cells, 0 ≤ x ∧ x < 18446744073709551616) → ∀ x ∈ S'.1.cells, 0 ≤ x ∧ x < 18446744073709551616
  inv : ∀ C0 : List Int, mkC mk = C0.length → UInv C0 S.1 S.2 → UInv C0 S'.1 S'.2
  few : S'.2.length ≤ S.2.length + 1
theorem BindOk.same {mk : List (Int × Int)} {S : PH × List Int} (h : HOk S.1) : BindOk mk S S := ⟨h, Kept.refl _, fun h => h, fun _ _ h => h, by omega⟩
theorem bind_okP {mk : List (Int × Int)} {S : PH × List Int} (h : HOk S.1) {p : Nat} {c : Int} (hp : S.1.cells[p]? = some ((p : Int) * 8)) (h0 : 0 ≤ c) (h1 : c < 18446744073709551616) (hr : right c = true) (hc : kindOf c = 0 → numOf c ≤ p) : BindOk mk S (bindP mk S p c) := by
  have hpl := (List.getElem?_eq_some_iff.1 hp).1
  refine ⟨hok_set h hr hc, ⟨by simp [bindP], rfl, rfl, rfl⟩, fun hb x hx => ?_, fun C0 hm hi => ⟨by simp [bindP]; exact hi.len, fun q hq => ?_, fun q hq hn => ?_⟩, ?_⟩
  · rcases List.mem_or_eq_of_mem_set (show x ∈ S.1.cells.set p c from hx) with hx | rfl
    · exact hb x hx
    · exact ⟨h0, h1⟩
  · have hq' : q ∈ (if (p : Int) < mkC mk then S.2 ++ [(p : Int)] else S.2) := hq
    split at hq'
    · rename_i hlt
      rcases List.mem_append.1 hq' with hq' | hq'
      · exact hi.trs q hq'
      · simp at hq'
        subst hq'
        refine ⟨p, rfl, ?_⟩
        by_cases hm' : (p : Int) ∈ S.2
        · obtain ⟨q, e, hq⟩ := hi.trs p hm'
          have : p = q := by omega
          subst this
          exact hq
        · rw [← hi.same p (by omega) hm']
          exact hp
    · exact hi.trs q hq'
  · have hn' : (q : Int) ∉ (if (p : Int) < mkC mk then S.2 ++ [(p : Int)] else S.2) := hn
    show (S.1.cells.set p c)[q]? = C0[q]?
    by_cases hqp : p = q
    · subst hqp
      exact absurd (by rw [if_pos (by omega)]; simp) hn'
    · rw [List.getElem?_set_ne hqp]
      refine hi.same q hq fun hm' => hn' ?_
      split
      · exact List.mem_append_left _ hm'
      · exact hm'
  · show (if (p : Int) < mkC mk then S.2 ++ [(p : Int)] else S.2).length ≤ _
    split
    · simp
    · omega
theorem top_ref {H : PH} {x : Int} (h : Top H x) (hk : kindOf x = 0) : H.cells[(numOf x).toNat]? = some (((numOf x).toNat : Int) * 8) := by
  have h1 := num_nn h.low h.rt
  have h2 := ref_eq h.rt hk
  rw [h.self hk]
  congr 1
  omega
theorem meet_okP {mk : List (Int × Int)} {S : PH × List Int} (h : HOk S.1) (hb : ∀ x ∈ S.1.cells, 0 ≤ x ∧ x < 18446744073709551616) {x y : Int} (hx : Top S.1 x) (hy : Top S.1 y) {r : (PH × List Int) × List (Int × Int)} (hm : meetP mk S x y = some r) : BindOk mk S r.1 ∧ ∀ q ∈ r.2, (0 ≤ q.1 ∧ q.1 < 18446744073709551616 ∧ right q.1 = true) ∧ 0 ≤ q.2 ∧ q.2 < 18446744073709551616 ∧ right q.2 = true := by
  unfold meetP at hm
  split at hm
  · obtain rfl := Option.some.inj hm
    exact ⟨BindOk.same h, fun q hq => by cases hq⟩
  · split at hm
    · rename_i hc
      obtain rfl := Option.some.inj hm
      have := num_nn hx.low hx.rt
      exact ⟨bind_okP h (top_ref hx hc.1) hy.low hy.up hy.rt (fun e => by rcases hc.2 with h2 | h2 <;> omega), fun q hq => by cases hq⟩
    · rename_i hn
      split at hm
      · rename_i hk
        obtain rfl := Option.some.inj hm
        have := num_nn hy.low hy.rt
        exact ⟨bind_okP h (top_ref hy hk) hx.low hx.up hx.rt (fun e => by
          have : ¬ numOf y < numOf x := fun hl => hn ⟨e, .inr hl⟩
          omega), fun q hq => by cases hq⟩
      · split at hm
        · cases hm
        · split at hm
          · cases hm
          · obtain rfl := Option.some.inj hm
            refine ⟨BindOk.same h, fun q hq => ?_⟩
            obtain ⟨h1, h2⟩ := List.of_mem_zip hq
            exact ⟨parts_cell h hb x q.1 h1, parts_cell h hb y q.2 h2⟩
theorem meet_few {mk : List (Int × Int)} {S : PH × List Int} (h : HOk S.1) {x y : Int} {r : (PH × List Int) × List (Int × Int)} (hm : meetP mk S x y = some r) : r.2.length ≤ 1000 := by
  unfold meetP at hm
  split at hm
  · obtain rfl := Option.some.inj hm; simp
  · split at hm
    · obtain rfl := Option.some.inj hm; simp
    · split at hm
      · obtain rfl := Option.some.inj hm; simp
      · split at hm
        · cases hm
        · split at hm
          · cases hm
          · obtain rfl := Option.some.inj hm
            have := parts_few h x
            simp only [List.length_zip]
            omega
/-- All steps. -/
structure UniOk (mk : List (Int × Int)) (n : Nat) (S S' : PH × List Int) : Prop where
  ok : HOk S'.1
  kept : Kept S.1 S'.1
  bytes : ∀ x ∈ S'.1.cells, 0 ≤ x ∧ x < 18446744073709551616
  inv : ∀ C0 : List Int, mkC mk = C0.length → UInv C0 S.1 S.2 → UInv C0 S'.1 S'.2
  few : S'.2.length ≤ S.2.length + n
theorem unify_okP {mk : List (Int × Int)} : ∀ (f : Nat) (S : PH × List Int) (st : List (Int × Int)), HOk S.1 → (∀ x ∈ S.1.cells, 0 ≤ x ∧ x < 18446744073709551616) → (∀ q ∈ st, (0 ≤ q.1 ∧ q.1 < 18446744073709551616 ∧ right q.1 = true) ∧ 0 ≤ q.2 ∧ q.2 < 18446744073709551616 ∧ right q.2 = true) → UniOk mk f S (unifyP mk f S st).1
  | f, S, [], h, hb, _ => by
    cases f <;> (rw [unifyP]; exact ⟨h, Kept.refl _, hb, fun _ _ h => h, Nat.le_add_right _ _⟩)
  | 0, S, _ :: _, h, hb, _ => by rw [unifyP]; exact ⟨h, Kept.refl _, hb, fun _ _ h => h, Nat.le_add_right _ _⟩
  | f + 1, S, p :: st, h, hb, hs => by
    have same : UniOk mk (f + 1) S S := ⟨h, Kept.refl _, hb, fun _ _ h => h, by omega⟩
    obtain ⟨ha, hc⟩ := hs p (by simp)
    rw [unifyP]
    cases h1 : derefP S.1 p.1 with
    | none => exact same
    | some x =>
      cases h2 : derefP S.1 p.2 with
      | none => exact same
      | some y =>
        simp only
        cases h3 : meetP mk S x y with
        | none => exact same
        | some r =>
          simp only
          obtain ⟨b, hq⟩ := meet_okP h hb (Top.of h hb ha.1 ha.2.1 ha.2.2 h1) (Top.of h hb hc.1 hc.2.1 hc.2.2 h2) h3
          have k := unify_okP (mk := mk) f r.1 (r.2 ++ st) b.ok (b.bytes hb) (fun q hm => (List.mem_append.1 hm).elim (hq q) (fun hm => hs q (by simp [hm])))
          have kf := k.few
          have bf := b.few
          exact ⟨k.ok, b.kept.trans k.kept, k.bytes, fun C0 hm hi => k.inv C0 hm (b.inv C0 hm hi), by omega⟩
/-- The parts of two that have one name are as many. -/
theorem parts_len {H : PH} {x y : Int} (hk : kindOf x = kindOf y) (hc : kindOf x = 1 → cellP H (numOf x).toNat = cellP H (numOf y).toNat) : (partsP H x).length = (partsP H y).length := by
  have fun_eq : kindOf x = 1 → funP H x = funP H y := fun h1 => by
    have h := hc h1
    unfold cellP at h
    unfold funP
    have z4 : ¬ kindOf 0 = 4 := by rw [kind_zero]; omega
    cases hx : H.cells[(numOf x).toNat]? with
    | none =>
      cases hy : H.cells[(numOf y).toNat]? with
      | none => rfl
      | some g =>
        rw [hx, hy] at h
        simp at h
        subst h
        simp only
        rw [if_neg z4]
    | some f =>
      cases hy : H.cells[(numOf y).toNat]? with
      | none =>
        rw [hx, hy] at h
        simp at h
        subst h
        simp only
        rw [if_neg z4]
      | some g =>
        rw [hx, hy] at h
        simp at h
        subst h
        rfl
  unfold partsP
  by_cases h1 : kindOf x = 1
  · rw [if_pos h1, if_pos (by omega), fun_eq h1]
    cases funP H y with
    | none => rfl
    | some z => simp
  · rw [if_neg h1, if_neg (by omega)]
    simp
/-! ### Back -/
def backL (tr : List Int) (l : List Int) : List Int := tr.foldl (fun l p => l.set p.toNat (p * 8)) l
theorem backL_snoc (tr : List Int) (p : Int) (l : List Int) : backL (tr ++ [p]) l = (backL tr l).set p.toNat (p * 8) := by unfold backL; rw [List.foldl_append]; rfl
theorem backL_len (tr : List Int) : ∀ l : List Int, (backL tr l).length = l.length := by
  induction tr with
  | nil => intro l; rfl
  | cons p tr ih => intro l; show (backL tr (l.set p.toNat (p * 8))).length = _; rw [ih, List.length_set]
theorem back_at {tr : List Int} (hn : ∀ p ∈ tr, 0 ≤ p) : ∀ (l : List Int) (q : Nat), q < l.length → (backL tr l)[q]? = if (q : Int) ∈ tr then some ((q : Int) * 8) else l[q]? := by
  induction tr with
  | nil => intro l q _; simp [backL]
  | cons p tr ih =>
    intro l q hq
    have hp := hn p (by simp)
    show (backL tr (l.set p.toNat (p * 8)))[q]? = _
    rw [ih (fun r hr => hn r (by simp [hr])) _ q (by rw [List.length_set]; exact hq)]
    by_cases hm : (q : Int) ∈ tr
    · rw [if_pos hm, if_pos (by simp [hm])]
    · rw [if_neg hm]
      by_cases hqp : (q : Int) = p
      · subst hqp
        rw [if_pos (by simp), Int.toNat_natCast, List.getElem?_set_self hq]
      · rw [if_neg (by simp [hm, hqp]), List.getElem?_set_ne (by omega)]
/-- All cells that were there are as they were. -/
theorem UInv.back {C0 : List Int} {H : PH} {tr : List Int} (h : UInv C0 H tr) : (backL tr H.cells).take C0.length = C0 := by
  have hn : ∀ p ∈ tr, 0 ≤ p := fun p hp => by obtain ⟨q, rfl, _⟩ := h.trs p hp; omega
  have hl := h.len
  refine List.ext_getElem? fun q => ?_
  rw [List.getElem?_take]
  split
  · rename_i hq
    rw [back_at hn _ q (by omega)]
    split
    · rename_i hm
      obtain ⟨z, e, hz⟩ := h.trs _ hm
      have : q = z := by omega
      subst this
      exact hz.symm
    · rename_i hm
      exact h.same q hq hm
  · rename_i hq
    rw [List.getElem?_eq_none (by omega)]
end Go.Proofs.YtnonfmaehfmigaaGreatDoor

/- What turns a heap's trail and marks; the program's bind. Printed by gen_hpbind.py. -/
namespace Go.Proofs.YtnonfmaehfmigaaGreatDoor
open Go.RowKit Go.Maps
section
variable {w : World} {base hb ag ah vb : Nat} {AA FA TA MA : Option Addr} {ca nt ct nm cm cf : Nat} {H : PH} {tr : List Int} {mk : List (Int × Int)} {room : Nat}
/-- .. trail turn. -/
theorem Hm.trail_ (h : Hm w base hb ag ah vb AA FA TA MA ca nt ct nm cm cf H tr mk room) {w1 : World} (k : Keeps w w1 (ownL (.slice TA 0 0))) {A' : Option Addr} {n' c' : Nat} {l' : List Int} (ho : w1.ownsRow base 3 1 (.slice A' n' c') n' (l'.map (Value.int .i64))) (hn : ∀ b ∈ ownL (.slice A' 0 0), b ∈ ownL (.slice TA 0 0) ∨ w.heap.size ≤ b) :
    Hm (w1.setCell ⟨hb, 4, none⟩ (.slice A' n' c')) base hb ag ah vb AA FA A' MA ca n' c' nm cm cf H l' mk room := by
  have ap := h.apart
  have a1 := ap.a1
  have hx : ∀ b ∈ ownL (.slice TA 0 0), b ∉ [hb, ag, ah, vb] := fun b hb' hm => (ap.a2 b hm).2.2.1 hb'
  have hno : hb ∉ ownL (.slice TA 0 0) := fun hm => hx hb hm (by simp)
  have b1 := h.blk.keep k hno
  have r1 := h.ar.keep k (fun hm => hx ag hm (by simp)) (fun hm => hx ah hm (by simp))
  have v1 := h.vars.kept k (fun hm => hx vb hm (by simp))
  have o1 := own_keepZ h.atoms k (fun b hb' hm => (ap.a3.1 b hm).2.1 hb')
  have o2 := own_keepZ h.funs k (fun b hb' hm => (ap.a3.2.1 b hm).1 hb')
  have o3 := own_keepZ h.marks k (fun b hb' hm => ap.a3.2.2 b hb' hm)
  have ks : Keeps w1 (w1.setCell ⟨hb, 4, none⟩ (.slice A' n' c')) [hb] := (Keeps.refl w1 [hb]).setCell (.inl (by simp)) _
  have hy := ap.a2 hb (by simp)
  have hA : hb ∉ ownL (.slice A' 0 0) := fun hm => by
    rcases hn hb hm with h1 | h1
    · exact hno h1
    · have := ap.lt.1; omega
  have one : ∀ {Q : Option Addr}, hb ∉ ownL (.slice Q 0 0) → ∀ b ∈ [hb], b ∉ ownL (.slice Q 0 0) := fun hq b hb' => by simp at hb'; subst hb'; exact hq
  have b2 := b1.set_ 4 (.slice A' n' c')
  exact ⟨by simpa using b2, r1.keep ks (by simp only [List.mem_cons, List.not_mem_nil, or_false]; exact Ne.symm a1.1) (by simp only [List.mem_cons, List.not_mem_nil, or_false]; exact Ne.symm a1.2.1), own_keepZ o1 ks (one hy.1), own_keepZ o2 ks (one hy.2.1), v1.kept ks (by simp only [List.mem_cons, List.not_mem_nil, or_false]; exact a1.2.2.1), own_keepZ ho ks (one hA), own_keepZ o3 ks (one hy.2.2.2), h.low, h.few⟩
theorem Hm.trail_st {w1 : World} (k : Keeps w w1 (ownL (.slice TA 0 0))) {A' : Option Addr} {n' c' : Nat} (hn : ∀ b ∈ ownL (.slice A' 0 0), b ∈ ownL (.slice TA 0 0) ∨ w.heap.size ≤ b) : HSt w (hpL hb ag ah vb AA FA TA MA) (w1.setCell ⟨hb, 4, none⟩ (.slice A' n' c')) (hpL hb ag ah vb AA FA A' MA) := by
  refine ⟨(k.more fun b _ hm => ?_).setCell (.inl (by simp [hpL])) _, fun b hm => ?_⟩
  · unfold hpL
    simp only [List.mem_append]
    exact .inr (.inr (.inr (.inl hm)))
  · unfold hpL at hm ⊢
    simp only [List.mem_append] at hm ⊢
    rcases hm with hm | hm | hm | hm | hm
    · exact .inl (.inl hm)
    · exact .inl (.inr (.inl hm))
    · exact .inl (.inr (.inr (.inl hm)))
    · rcases hn b hm with h1 | h1
      · exact .inl (.inr (.inr (.inr (.inl h1))))
      · exact .inr h1
    · exact .inl (.inr (.inr (.inr (.inr hm))))
/-- .. marks turn. -/
theorem Hm.marks_ (h : Hm w base hb ag ah vb AA FA TA MA ca nt ct nm cm cf H tr mk room) {w1 : World} (k : Keeps w w1 (ownL (.slice MA 0 0))) {A' : Option Addr} {n' c' : Nat} {l' : List (Int × Int)} (ho : w1.ownsRow base 74 2 (.slice A' n' c') n' (l'.flatMap mkE)) (hn : ∀ b ∈ ownL (.slice A' 0 0), b ∈ ownL (.slice MA 0 0) ∨ w.heap.size ≤ b) :
    Hm (w1.setCell ⟨hb, 5, none⟩ (.slice A' n' c')) base hb ag ah vb AA FA TA A' ca nt ct n' c' cf H tr l' room := by
  have ap := h.apart
  have a1 := ap.a1
  have hx : ∀ b ∈ ownL (.slice MA 0 0), b ∉ [hb, ag, ah, vb] := fun b hb' hm => (ap.a2 b hm).2.2.2 hb'
  have hno : hb ∉ ownL (.slice MA 0 0) := fun hm => hx hb hm (by simp)
  have b1 := h.blk.keep k hno
  have r1 := h.ar.keep k (fun hm => hx ag hm (by simp)) (fun hm => hx ah hm (by simp))
  have v1 := h.vars.kept k (fun hm => hx vb hm (by simp))
  have o1 := own_keepZ h.atoms k (fun b hb' hm => (ap.a3.1 b hm).2.2 hb')
  have o2 := own_keepZ h.funs k (fun b hb' hm => (ap.a3.2.1 b hm).2 hb')
  have o3 := own_keepZ h.trail k (fun b hb' hm => ap.a3.2.2 b hm hb')
  have ks : Keeps w1 (w1.setCell ⟨hb, 5, none⟩ (.slice A' n' c')) [hb] := (Keeps.refl w1 [hb]).setCell (.inl (by simp)) _
  have hy := ap.a2 hb (by simp)
  have hA : hb ∉ ownL (.slice A' 0 0) := fun hm => by
    rcases hn hb hm with h1 | h1
    · exact hno h1
    · have := ap.lt.1; omega
  have one : ∀ {Q : Option Addr}, hb ∉ ownL (.slice Q 0 0) → ∀ b ∈ [hb], b ∉ ownL (.slice Q 0 0) := fun hq b hb' => by simp at hb'; subst hb'; exact hq
  have b2 := b1.set_ 5 (.slice A' n' c')
  exact ⟨by simpa using b2, r1.keep ks (by simp only [List.mem_cons, List.not_mem_nil, or_false]; exact Ne.symm a1.1) (by simp only [List.mem_cons, List.not_mem_nil, or_false]; exact Ne.symm a1.2.1), own_keepZ o1 ks (one hy.1), own_keepZ o2 ks (one hy.2.1), v1.kept ks (by simp only [List.mem_cons, List.not_mem_nil, or_false]; exact a1.2.2.1), own_keepZ o3 ks (one hy.2.2.1), own_keepZ ho ks (one hA), h.low, h.few⟩
theorem Hm.marks_st {w1 : World} (k : Keeps w w1 (ownL (.slice MA 0 0))) {A' : Option Addr} {n' c' : Nat} (hn : ∀ b ∈ ownL (.slice A' 0 0), b ∈ ownL (.slice MA 0 0) ∨ w.heap.size ≤ b) : HSt w (hpL hb ag ah vb AA FA TA MA) (w1.setCell ⟨hb, 5, none⟩ (.slice A' n' c')) (hpL hb ag ah vb AA FA TA A') := by
  refine ⟨(k.more fun b _ hm => ?_).setCell (.inl (by simp [hpL])) _, fun b hm => ?_⟩
  · unfold hpL
    simp only [List.mem_append]
    exact .inr (.inr (.inr (.inr hm)))
  · unfold hpL at hm ⊢
    simp only [List.mem_append] at hm ⊢
    rcases hm with hm | hm | hm | hm | hm
    · exact .inl (.inl hm)
    · exact .inl (.inr (.inl hm))
    · exact .inl (.inr (.inr (.inl hm)))
    · exact .inl (.inr (.inr (.inr (.inl hm))))
    · rcases hn b hm with h1 | h1
      · exact .inl (.inr (.inr (.inr (.inr h1))))
      · exact .inr h1
/-- What an append leaves. -/
theorem app_facts {w1 wa w4 : World} {base nt ct sz : Nat} {e : TypeId} {TA A' : Option Addr} {n' c' : Nat} {xs : List Value} (K5 : Keeps w1 wa []) (hown : w4.ownsRow base e sz (.slice A' n' c') n' xs) (hgrow : wa.grownBy w4 (Value.slice TA nt ct).ownBlock)
    (hat : (Value.slice A' n' c').ownBlock = (Value.slice TA nt ct).ownBlock ∨ (Value.slice A' n' c').ownBlock = some wa.heap.size) : w4.ownsRow base e sz (.slice A' n' c') n' xs ∧ Keeps w1 w4 (ownL (.slice TA 0 0)) ∧ (∀ b ∈ ownL (.slice A' 0 0), b ∈ ownL (.slice TA 0 0) ∨ w1.heap.size ≤ b) := by
  refine ⟨hown, (K5.to_ _).trans (by rw [← ownL_slice TA nt ct]; exact Keeps.ofGrown hgrow), fun b hb' => ?_⟩
  rw [← ownL_slice A' n' c'] at hb'
  rw [← ownL_slice TA nt ct]
  unfold ownL at hb' ⊢
  simp only [Option.mem_toList] at hb' ⊢
  rcases hat with h1 | h1
  · exact .inl (by rw [← h1]; exact hb')
  · have := K5.size
    exact .inr (by rw [h1] at hb'; simp at hb'; omega)
theorem Blk.grown2 {w1 wa w4 : World} {g nt ct : Nat} {t : TypeId} {cs : Array Value} {TA : Option Addr} (h : Blk w1 g t cs) (K5 : Keeps w1 wa []) (hgrow : wa.grownBy w4 (Value.slice TA nt ct).ownBlock) (hn : g ∉ ownL (.slice TA 0 0)) : Blk w4 g t cs :=
  (h.keep K5 (by simp)).grown hgrow (fun e => hn (by rw [← ownL_slice TA nt ct]; unfold ownL; rw [← e]; simp))
theorem mkE_len (x : Int × Int) : (mkE x).length = 2 := rfl
theorem mkE_one (l : List (Int × Int)) : ∀ u ∈ l.flatMap mkE, u.oneCell' = true := by
  intro u hu
  obtain ⟨x, _, hx⟩ := List.mem_flatMap.1 hu
  simp only [mkE, List.mem_cons, List.not_mem_nil, or_false] at hx
  rcases hx with rfl | rfl <;> rfl
theorem el_mark : ElemT Tryz.prog 69 74 2 := elemT_of (b := 16) (z := .agg #[.int .i64 0, .int .i64 0]) Tryz.underlying69 (by kernel_rfl) (by omega) rfl (by omega)
theorem Hm.tlen (h : Hm w base hb ag ah vb AA FA TA MA ca nt ct nm cm cf H tr mk room) : nt = tr.length := by have := h.trail.1; simpa using this.symm
theorem Hm.mlen (h : Hm w base hb ag ah vb AA FA TA MA ca nt ct nm cm cf H tr mk room) : nm = mk.length := by
  have h1 := h.marks.1
  rw [length_flat mkE_len] at h1
  omega
/-- A cell is put in place of another. -/
theorem Hm.cell_ (h : Hm w base hb ag ah vb AA FA TA MA ca nt ct nm cm cf H tr mk room) {w' : World} {p : Nat} {c : Int} (k : Keeps w w' [ag, ah]) (ha : Ar w' base ag ah (H.cells.set p c) room) : Hm w' base hb ag ah vb AA FA TA MA ca nt ct nm cm cf { H with cells := H.cells.set p c } tr mk room :=
  h.cells k ha (by rw [List.length_set]; exact Nat.le_refl _)
end
/-- A heap, behind a call that turns its own blocks. -/
def HpD (w : World) (base hb : Nat) (L : List Nat) (S : PH × List Int) (mk : List (Int × Int)) (room : Nat) (w' : World) : Prop := ∃ L', Hp w' base hb L' S.1 S.2 mk room ∧ HSt w L w' L'
set_option maxRecDepth 100000 in
set_option maxHeartbeats 3200000 in
theorem hbind_any {w : World} {base hb : Nat} {L : List Nat} {H : PH} {tr : List Int} {mk : List (Int × Int)} {room : Nat} (hH : Hp w base hb L H tr mk room) (p : Nat) (c : Int) (hp : p < H.cells.length) (h0 : 0 ≤ c) (h1 : c < 18446744073709551616) (hr : right c = true) (hnt : tr.length ≤ 1000000) :
    Calls Tryz.prog 71 #[.pointer (some ⟨hb, 0, none⟩), .int .i64 p, .int .u64 c] w fun e w' => e = .returned (.tuple #[]) ∧ HpD w base hb L (bindP mk (H, tr) p c) mk room w' := by
  obtain ⟨ag, ah, vb, AA, FA, TA, MA, ca, nt, ct, nm, cm, cf, rfl, hm⟩ := hH
  have HM := Lib.hid hm
  have HSe := Lib.hid (set_yes hm.ar p c hp h0 h1 hr)
  have hml := hm.mlen
  have htl := hm.tlen
  have hpp : (p : Int) < 65536 := by have := hm.ar.fits; have := hm.ar.most; omega
  have hpn : (0 : Int) ≤ (p : Int) := Int.natCast_nonneg _
  have x0 := hm.blk.cell 0
  have after : ∀ w1, Ar w1 base ag ah (H.cells.set p c) room → Keeps w w1 [ag, ah] → Hm w1 base hb ag ah vb AA FA TA MA ca nt ct nm cm cf { H with cells := H.cells.set p c } tr mk room := fun w1 ha k => hm.cell_ k ha
  have HAf := Lib.hid after
  have st1 : ∀ w1, Keeps w w1 [ag, ah] → HSt w (hpL hb ag ah vb AA FA TA MA) w1 (hpL hb ag ah vb AA FA TA MA) := fun w1 k => HSt.of k (fun b hb' => by simp at hb'; rcases hb' with rfl | rfl <;> simp [hpL])
  have HS1 := Lib.hid st1
  have HT0 : Hid (nt = tr.length) := htl
  clear hm after st1 hp h0 h1 hr
  rcases List.eq_nil_or_concat mk with hmk | ⟨mk0, ml, hmk⟩
  · subst hmk
    simp only [List.length_nil] at hml
    subst hml
    have HRes : Hid (bindP [] (H, tr) p c = ({ H with cells := H.cells.set p c }, tr)) := by
      show _ = _
      have hno : ¬ (p : Int) < mkC [] := by show ¬ (p : Int) < 0; omega
      unfold bindP
      rw [if_neg hno]
    rw [HRes.out]
    clear htl hnt hpp hpn
    go_enter Tryz.func71, Tryz.ntmps71
    go_wp2_with fail
    refine HSe.out.mono ?_
    rintro e w1 ⟨rfl, ha, k1⟩
    have hM1 := HAf.out w1 ha k1
    have HM1 := Lib.hid hM1
    have HST := Lib.hid (HS1.out w1 k1)
    have y5 := hM1.blk.cell 5
    clear ha k1 hM1 x0 HSe
    go_wp2_with fail
    go_end0
    exact ⟨rfl, _, ⟨_, _, _, _, _, _, _, _, _, _, _, _, _, rfl, HM1.out⟩, HST.out⟩
  · rw [List.concat_eq_append] at hmk
    subst hmk
    obtain ⟨cc, tt⟩ := ml
    obtain ⟨m, hmm⟩ : ∃ m, mk0.length = m := ⟨_, rfl⟩
    rw [List.length_append, List.length_singleton, hmm] at hml
    subst hml
    have hmc : mkC (mk0 ++ [(cc, tt)]) = cc := by unfold mkC; simp
    have hfew : m + 1 ≤ 9223372036854775807 := by
      rcases HM.out.marks.2 with ⟨_, h⟩ | ⟨g, cap, cur, h1, h2, h3, h4, h5, _⟩
      · omega
      · unfold maxLen at h5
        omega
    obtain ⟨mb, moff, hMA, hmb, hmf⟩ := (Rd.of_own HM.out.marks).field mkE_len (l := mk0 ++ [(cc, tt)]) (k := m) (x := (cc, tt)) (by rw [List.getElem?_append_right (by omega), hmm, Nat.sub_self]; rfl) (by omega)
    have HMb : Hid (∀ w1, Keeps w w1 [ag, ah] → w1.cell? ⟨mb, moff + m * 2, none⟩ = some (.int .i64 cc)) := fun w1 k => by
      have hne : ∀ b ∈ [hb, ag, ah, vb], mb ≠ b := fun b hb' e => by
        have h := (HM.out.apart.a2 b hb').2.2.2
        exact h (by rw [hMA, ← e]; simp [ownL, Value.ownBlock])
      exact (k.cell (p := ⟨mb, moff + m * 2, none⟩) hmb (by simp; exact ⟨hne ag (by simp), hne ah (by simp)⟩)).trans (hmf 0 _ rfl)
    have HMA := Lib.hid hMA
    have HMC := Lib.hid hmc
    have bm : ((m : Int) + 1 - 1) = (m : Int) := by omega
    have bm0 : (0 : Int) ≤ (m : Int) := Int.natCast_nonneg _
    have bm1 : (m : Int) ≤ 9223372036854775806 := by omega
    have HNT := Lib.hid hnt
    clear hmb hmf hMA hmc hmm hfew htl hnt
    by_cases hlt : (p : Int) < cc
    · have dl : decide ((p : Int) < cc) = true := by simpa using hlt
      have HRes : Hid (bindP (mk0 ++ [(cc, tt)]) (H, tr) p c = ({ H with cells := H.cells.set p c }, tr ++ [(p : Int)])) := by
        show _ = _
        unfold bindP
        rw [HMC.out, if_pos hlt]
      rw [HRes.out]
      clear hlt
      go_enter Tryz.func71, Tryz.ntmps71
      go_wp2_with fail
      refine HSe.out.mono ?_
      rintro e w1 ⟨rfl, ha, k1⟩
      have hM1 := HAf.out w1 ha k1
      have HM1 := Lib.hid hM1
      have HST := Lib.hid (HS1.out w1 k1)
      have y5 := hM1.blk.cell 5
      have y4 := hM1.blk.cell 4
      have f4 := hM1.blk.frozen 4
      have y6 := HMb.out w1 k1
      have e5 : w1.cell? ⟨hb, 5, none⟩ = some (.slice (some ⟨mb, moff, none⟩) (m + 1) cm) := by rw [← HMA.out]; exact y5
      have hlt1 := hM1.lt hb (by simp [hpL])
      clear ha k1 hM1 x0 HSe y5
      go_wp2_with (at_builtin; have K5 := (Keeps.refl w1 []).alloc (.cells #[.int .i64 p] 3); refine wpList_app _ el_int rfl (.tmp 38) (.tmp 40) rfl base TA nt ct (tr.map (Value.int .i64)) rfl (own_keep0 HM1.out.trail K5) (some ⟨w1.heap.size, 0, none⟩) 1 1 [.int .i64 p] rfl (Rd.one w1 _ [.int .i64 p]) rfl (by simp) (by simp [Value.oneCell']) (by have := HT0.out; have := HNT.out; omega) (by have := HM1.out.low.1; simp; omega) ?_; intro A' c' w4 hown hgrow hat; have HAp := Lib.hid (app_facts K5 hown hgrow hat); have hB4 := HM1.out.blk.grown2 K5 hgrow (HM1.out.apart.a2 hb (by simp)).2.2.1; have y4 := hB4.cell 4; have f4 := hB4.frozen 4; clear hown hgrow hat K5 hB4)
      go_end0
      obtain ⟨o1, o2, o3⟩ := HAp.out
      rw [← List.map_singleton (f := Value.int .i64), ← List.map_append] at o1
      exact ⟨rfl, _, ⟨_, _, _, _, _, _, _, _, _, _, _, _, _, rfl, HM1.out.trail_ o2 o1 o3⟩, HST.out.trans (Hm.trail_st o2 o3)⟩
    · have dl : decide ((p : Int) < cc) = false := by simpa using hlt
      have HRes : Hid (bindP (mk0 ++ [(cc, tt)]) (H, tr) p c = ({ H with cells := H.cells.set p c }, tr)) := by
        show _ = _
        unfold bindP
        rw [HMC.out, if_neg hlt]
      rw [HRes.out]
      clear hlt
      go_enter Tryz.func71, Tryz.ntmps71
      go_wp2_with fail
      refine HSe.out.mono ?_
      rintro e w1 ⟨rfl, ha, k1⟩
      have hM1 := HAf.out w1 ha k1
      have HM1 := Lib.hid hM1
      have HST := Lib.hid (HS1.out w1 k1)
      have y5 := hM1.blk.cell 5
      have y6 := HMb.out w1 k1
      have e5 : w1.cell? ⟨hb, 5, none⟩ = some (.slice (some ⟨mb, moff, none⟩) (m + 1) cm) := by rw [← HMA.out]; exact y5
      clear ha k1 hM1 x0 HSe y5
      go_wp2_with fail
      go_end0
      exact ⟨rfl, _, ⟨_, _, _, _, _, _, _, _, _, _, _, _, _, rfl, HM1.out⟩, HST.out⟩
end Go.Proofs.YtnonfmaehfmigaaGreatDoor

/- The program's meet. Printed by gen_hpmeet.py. -/
namespace Go.Proofs.YtnonfmaehfmigaaGreatDoor
open Go.RowKit Go.Maps
def prE (p : Int × Int) : List Value := [.int .u64 p.1, .int .u64 p.2]
theorem prE_len (x : Int × Int) : (prE x).length = 2 := rfl
theorem prE_one (l : List (Int × Int)) : ∀ u ∈ l.flatMap prE, u.oneCell' = true := by
  intro u hu
  obtain ⟨x, _, hx⟩ := List.mem_flatMap.1 hu
  simp only [prE, List.mem_cons, List.not_mem_nil, or_false] at hx
  rcases hx with rfl | rfl <;> rfl
theorem el_pr : ElemT Tryz.prog 85 84 2 := elemT_of (b := 16) (z := .agg #[.int .u64 0, .int .u64 0]) Tryz.underlying85 (by kernel_rfl) (by omega) rfl (by omega)
def MeetD (w : World) (base hb : Nat) (L : List Nat) (S : PH × List Int) (mk : List (Int × Int)) (room : Nat) (o : Option ((PH × List Int) × List (Int × Int))) (e : Ending) (w' : World) : Prop :=
  match o with
  | none => e = .returned (.tuple #[.slice none 0 0, .bool false]) ∧ HpD w base hb L S mk room w'
  | some r => ∃ A c, e = .returned (.tuple #[.slice A r.2.length c, .bool true]) ∧ w'.ownsRow w.heap.size 84 2 (.slice A r.2.length c) r.2.length (r.2.flatMap prE) ∧ ∃ L', Hp w' base hb L' r.1.1 r.1.2 mk room ∧ HSt w L w' L' ∧ ∀ b ∈ ownL (.slice A 0 0), b ∉ L'
set_option maxRecDepth 100000 in
set_option maxHeartbeats 6400000 in
theorem meet_any {w : World} {base hb : Nat} {L : List Nat} {H : PH} {tr : List Int} {mk : List (Int × Int)} {room : Nat} (hH : Hp w base hb L H tr mk room) (ho : HOk H) (x y : Int) (hx : Top H x) (hy : Top H y) (hnt : tr.length ≤ 1000000) :
    Calls Tryz.prog 36 #[.pointer (some ⟨hb, 0, none⟩), .int .u64 x, .int .u64 y] w (MeetD w base hb L (H, tr) mk room (meetP mk (H, tr) x y)) := by
  have HPP := Lib.hid hH
  obtain ⟨o, hoo⟩ : ∃ o, meetP mk (H, tr) x y = o := ⟨_, rfl⟩
  rw [hoo]
  unfold meetP at hoo
  have HKx := Lib.hid (fun W => kind_any x W hx.low hx.up)
  have HKy := Lib.hid (fun W => kind_any y W hy.low hy.up)
  have HNx := Lib.hid (fun W => number_any x W hx.low hx.up)
  have HNy := Lib.hid (fun W => number_any y W hy.low hy.up)
  have stay : HpD w base hb L (H, tr) mk room w := ⟨L, hH, HSt.refl _ _⟩
  have HStay := Lib.hid stay
  by_cases hxy : x = y
  · subst hxy
    rw [if_pos rfl] at hoo
    have HRes := Lib.hid hoo.symm
    clear hoo stay hH ho hx hy hnt
    go_enter Tryz.func36, Tryz.ntmps36
    go_wp2_with fail
    go_ret2
    rw [HRes.out]
    exact ⟨none, 0, rfl, World.ownsRow_nil _ _ _ _, L, HPP.out, HSt.refl _ _, by simp [ownL, Value.ownBlock]⟩
  rw [if_neg hxy] at hoo
  have exy : (x == y) = false := by simpa using hxy
  obtain ⟨p, hp⟩ := Int.eq_ofNat_of_zero_le (num_nn hx.low hx.rt)
  obtain ⟨q, hq⟩ := Int.eq_ofNat_of_zero_le (num_nn hy.low hy.rt)
  have hpp : (numOf x).toNat = p := by omega
  have hqq : (numOf y).toNat = q := by omega
  rw [hp] at HNx
  rw [hq] at HNy
  by_cases hkx : kindOf x = 0
  · have hpl : p < H.cells.length := by have := hx.self hkx; rw [hpp] at this; exact (List.getElem?_eq_some_iff.1 this).1
    by_cases hky : kindOf y = 0
    · have hql : q < H.cells.length := by have := hy.self hky; rw [hqq] at this; exact (List.getElem?_eq_some_iff.1 this).1
      by_cases hqp : (q : Int) < p
      · rw [if_pos ⟨hkx, .inr (by omega)⟩, hpp] at hoo
        have HRes := Lib.hid hoo.symm
        have HBi := Lib.hid (hbind_any hH p y hpl hy.low hy.up hy.rt hnt)
        rw [hkx] at HKx
        rw [hky] at HKy
        have dl : decide ((q : Int) < (p : Int)) = true := by simpa using hqp
        have dl2 : decide (q < p) = true := by simp; omega
        clear hoo stay hH ho hx hy hnt hxy hp hq hpp hqq hkx hky hpl hql hqp
        go_enter Tryz.func36, Tryz.ntmps36
        go_wp2_with fail
        refine (HKx.out _).mono ?_
        rintro e w2 ⟨rfl, rfl⟩
        go_wp2_with fail
        refine (HKy.out _).mono ?_
        rintro e w2 ⟨rfl, rfl⟩
        go_wp2_with fail
        refine (HNy.out _).mono ?_
        rintro e w2 ⟨rfl, rfl⟩
        go_wp2_with fail
        refine (HNx.out _).mono ?_
        rintro e w2 ⟨rfl, rfl⟩
        go_wp2_with fail
        refine (HNx.out _).mono ?_
        rintro e w2 ⟨rfl, rfl⟩
        go_wp2_with fail
        refine HBi.out.mono ?_
        rintro e w3 ⟨rfl, L', hp', st'⟩
        have HP' := Lib.hid hp'
        have HST' := Lib.hid st'
        clear hp' st'
        go_wp2_with fail
        go_ret2
        rw [HRes.out]
        exact ⟨none, 0, rfl, World.ownsRow_nil _ _ _ _, L', HP'.out, HST'.out, by simp [ownL, Value.ownBlock]⟩
      · rw [if_neg (by omega), if_pos hky, hqq] at hoo
        have HRes := Lib.hid hoo.symm
        have HBi := Lib.hid (hbind_any hH q x hql hx.low hx.up hx.rt hnt)
        rw [hkx] at HKx
        rw [hky] at HKy
        have dl : decide ((q : Int) < (p : Int)) = false := by simpa using hqp
        have dl2 : decide (q < p) = false := by simp; omega
        clear hoo stay hH ho hx hy hnt hxy hp hq hpp hqq hkx hky hpl hql hqp
        go_enter Tryz.func36, Tryz.ntmps36
        go_wp2_with fail
        refine (HKx.out _).mono ?_
        rintro e w2 ⟨rfl, rfl⟩
        go_wp2_with fail
        refine (HKy.out _).mono ?_
        rintro e w2 ⟨rfl, rfl⟩
        go_wp2_with fail
        refine (HNy.out _).mono ?_
        rintro e w2 ⟨rfl, rfl⟩
        go_wp2_with fail
        refine (HNx.out _).mono ?_
        rintro e w2 ⟨rfl, rfl⟩
        go_wp2_with fail
        refine (HKy.out _).mono ?_
        rintro e w2 ⟨rfl, rfl⟩
        go_wp2_with fail
        refine (HNy.out _).mono ?_
        rintro e w2 ⟨rfl, rfl⟩
        go_wp2_with fail
        refine HBi.out.mono ?_
        rintro e w3 ⟨rfl, L', hp', st'⟩
        have HP' := Lib.hid hp'
        have HST' := Lib.hid st'
        clear hp' st'
        go_wp2_with fail
        go_ret2
        rw [HRes.out]
        exact ⟨none, 0, rfl, World.ownsRow_nil _ _ _ _, L', HP'.out, HST'.out, by simp [ownL, Value.ownBlock]⟩
    · rw [if_pos ⟨hkx, .inl hky⟩, hpp] at hoo
      have HRes := Lib.hid hoo.symm
      have HBi := Lib.hid (hbind_any hH p y hpl hy.low hy.up hy.rt hnt)
      rw [hkx] at HKx
      have ek : (kindOf y == 0) = false := by simpa using hky
      have ek' : (kindOf y != 0) = true := by simpa using hky
      generalize kindOf y = ky at hky HKy ek ek'
      clear hoo stay hH ho hx hy hnt hxy hp hq hpp hqq hkx hky hpl
      go_enter Tryz.func36, Tryz.ntmps36
      go_wp2_with fail
      refine (HKx.out _).mono ?_
      rintro e w2 ⟨rfl, rfl⟩
      go_wp2_with fail
      refine (HKy.out _).mono ?_
      rintro e w2 ⟨rfl, rfl⟩
      go_wp2_with fail
      refine (HNx.out _).mono ?_
      rintro e w2 ⟨rfl, rfl⟩
      go_wp2_with fail
      refine HBi.out.mono ?_
      rintro e w3 ⟨rfl, L', hp', st'⟩
      have HP' := Lib.hid hp'
      have HST' := Lib.hid st'
      clear hp' st'
      go_wp2_with fail
      go_ret2
      rw [HRes.out]
      exact ⟨none, 0, rfl, World.ownsRow_nil _ _ _ _, L', HP'.out, HST'.out, by simp [ownL, Value.ownBlock]⟩
  · rw [if_neg (by omega)] at hoo
    have ek : (kindOf x == 0) = false := by simpa using hkx
    by_cases hky : kindOf y = 0
    · have hql : q < H.cells.length := by have := hy.self hky; rw [hqq] at this; exact (List.getElem?_eq_some_iff.1 this).1
      rw [if_pos hky, hqq] at hoo
      have HRes := Lib.hid hoo.symm
      have HBi := Lib.hid (hbind_any hH q x hql hx.low hx.up hx.rt hnt)
      rw [hky] at HKy
      generalize kindOf x = kx at hkx HKx ek
      clear hoo stay hH ho hx hy hnt hxy hp hq hpp hqq hkx hky hql
      go_enter Tryz.func36, Tryz.ntmps36
      go_wp2_with fail
      refine (HKx.out _).mono ?_
      rintro e w2 ⟨rfl, rfl⟩
      go_wp2_with fail
      refine (HKy.out _).mono ?_
      rintro e w2 ⟨rfl, rfl⟩
      go_wp2_with fail
      refine (HNy.out _).mono ?_
      rintro e w2 ⟨rfl, rfl⟩
      go_wp2_with fail
      refine HBi.out.mono ?_
      rintro e w3 ⟨rfl, L', hp', st'⟩
      have HP' := Lib.hid hp'
      have HST' := Lib.hid st'
      clear hp' st'
      go_wp2_with fail
      go_ret2
      rw [HRes.out]
      exact ⟨none, 0, rfl, World.ownsRow_nil _ _ _ _, L', HP'.out, HST'.out, by simp [ownL, Value.ownBlock]⟩
    · rw [if_neg hky] at hoo
      have ey : (kindOf y == 0) = false := by simpa using hky
      by_cases hkk : kindOf x ≠ kindOf y
      · rw [if_pos (.inl hkk)] at hoo
        have HRes := Lib.hid hoo.symm
        have en : (kindOf x != kindOf y) = true := by simpa using hkk
        have en2 : (kindOf x == kindOf y) = false := by simpa using hkk
        generalize kindOf x = kx at hkx HKx ek en en2 hkk
        generalize kindOf y = ky at hky HKy ey en en2 hkk
        clear hoo stay hH ho hx hy hnt hxy hp hq hpp hqq hkx hky hkk
        go_enter Tryz.func36, Tryz.ntmps36
        go_wp2_with fail
        refine (HKx.out _).mono ?_
        rintro e w2 ⟨rfl, rfl⟩
        go_wp2_with fail
        refine (HKy.out _).mono ?_
        rintro e w2 ⟨rfl, rfl⟩
        go_wp2_with fail
        refine (HKx.out _).mono ?_
        rintro e w2 ⟨rfl, rfl⟩
        go_wp2_with fail
        refine (HKy.out _).mono ?_
        rintro e w2 ⟨rfl, rfl⟩

        go_wp2_with fail
        go_ret2
        rw [HRes.out]
        exact ⟨rfl, HStay.out⟩
      · have hkk : kindOf x = kindOf y := Decidable.not_not.1 hkk
        rw [← hkk] at HKy ey
        by_cases hk2 : kindOf x = 2
        · rw [if_pos (.inr hk2)] at hoo
          have HRes := Lib.hid hoo.symm
          rw [hk2] at HKx HKy
          clear hoo stay hH ho hx hy hnt hxy hp hq hpp hqq hkx hky hkk ek ey hk2
          go_enter Tryz.func36, Tryz.ntmps36
          go_wp2_with fail
          refine (HKx.out _).mono ?_
          rintro e w2 ⟨rfl, rfl⟩
          go_wp2_with fail
          refine (HKy.out _).mono ?_
          rintro e w2 ⟨rfl, rfl⟩
          go_wp2_with fail
          refine (HKx.out _).mono ?_
          rintro e w2 ⟨rfl, rfl⟩
          go_wp2_with fail
          refine (HKy.out _).mono ?_
          rintro e w2 ⟨rfl, rfl⟩
          go_wp2_with fail
          refine (HKx.out _).mono ?_
          rintro e w2 ⟨rfl, rfl⟩

          go_wp2_with fail
          go_ret2
          rw [HRes.out]
          exact ⟨rfl, HStay.out⟩
        · rw [if_neg (by omega), hpp, hqq] at hoo
          have e2 : (kindOf x == 2) = false := by simpa using hk2
          obtain ⟨ag, ah, vb, AA, FA, TA, MA, ca, nt, ct, nm, cm, cf, hL, hm⟩ := hH
          have HS0 : Hid (w.cell? ⟨hb, 0, none⟩ = some (.pointer (some ⟨ag, 0, none⟩))) := hm.blk.cell 0
          have HGx : Hid (∀ W, Keeps w W [] → _) := fun W kk => get_at (hm.keep0 kk).ar p
          have HGy : Hid (∀ W, Keeps w W [] → _) := fun W kk => get_at (hm.keep0 kk).ar q
          have hcp : cellP H p = (H.cells[p]?).getD 0 := rfl
          have hcq : cellP H q = (H.cells[q]?).getD 0 := rfl
          simp only [hcp, hcq] at hoo
          rw [← hcp] at HGx hoo
          rw [← hcq] at HGy hoo
          have HPx : Hid (∀ W, Keeps w W [] → Calls Tryz.prog 66 #[.pointer (some ⟨hb, 0, none⟩), .int .u64 x] W (RowD W (partsP H x))) := fun W kk => parts_any (hm.keep0 kk) ho x hx.low hx.up hx.rt
          have HPy : Hid (∀ W, Keeps w W [] → Calls Tryz.prog 66 #[.pointer (some ⟨hb, 0, none⟩), .int .u64 y] W (RowD W (partsP H y))) := fun W kk => parts_any (hm.keep0 kk) ho y hy.low hy.up hy.rt
          have hlen : (kindOf x = 1 → cellP H p = cellP H q) → (partsP H x).length = (partsP H y).length := fun h => parts_len hkk (by rw [hpp, hqq]; exact h)
          have hfew := parts_few ho x
          generalize (H.cells[p]?).isSome = bx at HGx
          generalize (H.cells[q]?).isSome = by_ at HGy
          generalize cellP H p = F at HGx hoo hlen
          generalize cellP H q = G at HGy hoo hlen
          clear hcp hcq
          by_cases hk1 : kindOf x = 1
          · rw [hk1] at HKx HKy
            by_cases hFG : F = G
            · subst hFG
              rw [if_neg (by simp)] at hoo
              have HRes := Lib.hid hoo.symm
              have hll := hlen (fun _ => rfl)
              obtain ⟨m, hmx⟩ : ∃ m, (partsP H x).length = m := ⟨_, rfl⟩
              have HMx := Lib.hid hmx
              have HMy : Hid ((partsP H y).length = m) := hll.symm.trans hmx
              have HM9 : Hid (m ≤ 1000) := by rw [← hmx]; exact hfew
              clear hoo stay hm ho hx hy hnt hxy hp hq hpp hqq hkx hky hkk ek ey hk2 e2 hk1 hL hlen hfew hll hmx
              go_enter Tryz.func36, Tryz.ntmps36
              go_wp2_with fail
              refine (HKx.out _).mono ?_
              rintro e w2 ⟨rfl, rfl⟩
              go_wp2_with fail
              refine (HKy.out _).mono ?_
              rintro e w2 ⟨rfl, rfl⟩
              go_wp2_with fail
              refine (HKx.out _).mono ?_
              rintro e w2 ⟨rfl, rfl⟩
              go_wp2_with fail
              refine (HKy.out _).mono ?_
              rintro e w2 ⟨rfl, rfl⟩
              go_wp2_with fail
              refine (HKx.out _).mono ?_
              rintro e w2 ⟨rfl, rfl⟩
              go_upto_region 11 with fail
              refine wp_region_th (fun W' => W'.cell? ⟨hb, 0, none⟩ = some (.pointer (some ⟨ag, 0, none⟩))) 10 [9] [(0, true), (1, true), (2, true), (3, true), (4, true), (5, false), (6, false), (7, true), (8, true), (9, true), (10, false), (11, false)] (by kernel_rfl) (by kernel_rfl) (by exact HS0.out) (fun hHeld => ?_)
              (repeat (first | (refine wpTh_take (v := ?_) rfl (by rfl) (by assumption) ?_ (by rfl) ?_; rotate_left; (focus (intro w' hSw; (try dsimp only at hSw); go_simp; (try with_reducible rfl); done)); simp only [Act.put, List.setIfInBounds_toArray, List.set_cons_zero, List.set_cons_succ]) | (refine wpTh_pure (v := ?_) rfl (by rfl) (by assumption) ?_ (by rfl) ?_; rotate_left; (focus (intro w'; go_simp; (try with_reducible rfl); done)); simp only [Act.put, List.setIfInBounds_toArray, List.set_cons_zero, List.set_cons_succ])))
              refine wpTh_go rfl (fun K hK => ?_)
              go_simp
              refine (HNx.out _).mono ?_
              rintro e w3 ⟨rfl, rfl⟩
              refine hK.out _ _ ?_ ?_
              · exact HS0.out
              (clear hHeld; intro hHeld; clear hK K; (try simp only [Act.put, List.setIfInBounds_toArray, List.set_cons_zero, List.set_cons_succ]))
              (repeat (first | (refine wpTh_take (v := ?_) rfl (by rfl) (by assumption) ?_ (by rfl) ?_; rotate_left; (focus (intro w' hSw; (try dsimp only at hSw); go_simp; (try with_reducible rfl); done)); simp only [Act.put, List.setIfInBounds_toArray, List.set_cons_zero, List.set_cons_succ]) | (refine wpTh_pure (v := ?_) rfl (by rfl) (by assumption) ?_ (by rfl) ?_; rotate_left; (focus (intro w'; go_simp; (try with_reducible rfl); done)); simp only [Act.put, List.setIfInBounds_toArray, List.set_cons_zero, List.set_cons_succ])))
              refine wpTh_go rfl (fun K hK => ?_)
              go_simp
              refine (HGx.out _ ((Keeps.refl _ _).drew)).mono ?_
              rintro e w4 ⟨rfl, rfl⟩
              refine hK.out _ _ ?_ ?_
              · exact HS0.out
              (clear hHeld; intro hHeld; clear hK K; (try simp only [Act.put, List.setIfInBounds_toArray, List.set_cons_zero, List.set_cons_succ]))
              (repeat (first | (refine wpTh_take (v := ?_) rfl (by rfl) (by assumption) ?_ (by rfl) ?_; rotate_left; (focus (intro w' hSw; (try dsimp only at hSw); go_simp; (try with_reducible rfl); done)); simp only [Act.put, List.setIfInBounds_toArray, List.set_cons_zero, List.set_cons_succ]) | (refine wpTh_pure (v := ?_) rfl (by rfl) (by assumption) ?_ (by rfl) ?_; rotate_left; (focus (intro w'; go_simp; (try with_reducible rfl); done)); simp only [Act.put, List.setIfInBounds_toArray, List.set_cons_zero, List.set_cons_succ])))
              refine wpTh_tail rfl (by decide) (fun K hK => ?_)
              go_simp
              refine hK.out _ _ ?_; clear hK K; (try simp only [Act.put, List.setIfInBounds_toArray, List.set_cons_zero, List.set_cons_succ])
              refine wpTh_last rfl (by decide) (fun K hK => ?_)
              go_simp
              refine hK.out _ _ (NoPanic.normal ?_)
              clear hK K hHeld
              go_upto_region 12 with fail
              refine wp_region_th (fun W' => W'.cell? ⟨hb, 0, none⟩ = some (.pointer (some ⟨ag, 0, none⟩))) 10 [9] [(0, true), (1, true), (2, true), (3, true), (4, true), (5, false), (6, false), (7, true), (8, true), (9, true), (10, false), (11, false)] (by kernel_rfl) (by kernel_rfl) (by exact HS0.out) (fun hHeld => ?_)
              (repeat (first | (refine wpTh_take (v := ?_) rfl (by rfl) (by assumption) ?_ (by rfl) ?_; rotate_left; (focus (intro w' hSw; (try dsimp only at hSw); go_simp; (try with_reducible rfl); done)); simp only [Act.put, List.setIfInBounds_toArray, List.set_cons_zero, List.set_cons_succ]) | (refine wpTh_pure (v := ?_) rfl (by rfl) (by assumption) ?_ (by rfl) ?_; rotate_left; (focus (intro w'; go_simp; (try with_reducible rfl); done)); simp only [Act.put, List.setIfInBounds_toArray, List.set_cons_zero, List.set_cons_succ])))
              refine wpTh_go rfl (fun K hK => ?_)
              go_simp
              refine (HNy.out _).mono ?_
              rintro e w3 ⟨rfl, rfl⟩
              refine hK.out _ _ ?_ ?_
              · exact HS0.out
              (clear hHeld; intro hHeld; clear hK K; (try simp only [Act.put, List.setIfInBounds_toArray, List.set_cons_zero, List.set_cons_succ]))
              (repeat (first | (refine wpTh_take (v := ?_) rfl (by rfl) (by assumption) ?_ (by rfl) ?_; rotate_left; (focus (intro w' hSw; (try dsimp only at hSw); go_simp; (try with_reducible rfl); done)); simp only [Act.put, List.setIfInBounds_toArray, List.set_cons_zero, List.set_cons_succ]) | (refine wpTh_pure (v := ?_) rfl (by rfl) (by assumption) ?_ (by rfl) ?_; rotate_left; (focus (intro w'; go_simp; (try with_reducible rfl); done)); simp only [Act.put, List.setIfInBounds_toArray, List.set_cons_zero, List.set_cons_succ])))
              refine wpTh_go rfl (fun K hK => ?_)
              go_simp
              refine (HGy.out _ ((Keeps.refl _ _).drew.drew)).mono ?_
              rintro e w4 ⟨rfl, rfl⟩
              refine hK.out _ _ ?_ ?_
              · exact HS0.out
              (clear hHeld; intro hHeld; clear hK K; (try simp only [Act.put, List.setIfInBounds_toArray, List.set_cons_zero, List.set_cons_succ]))
              (repeat (first | (refine wpTh_take (v := ?_) rfl (by rfl) (by assumption) ?_ (by rfl) ?_; rotate_left; (focus (intro w' hSw; (try dsimp only at hSw); go_simp; (try with_reducible rfl); done)); simp only [Act.put, List.setIfInBounds_toArray, List.set_cons_zero, List.set_cons_succ]) | (refine wpTh_pure (v := ?_) rfl (by rfl) (by assumption) ?_ (by rfl) ?_; rotate_left; (focus (intro w'; go_simp; (try with_reducible rfl); done)); simp only [Act.put, List.setIfInBounds_toArray, List.set_cons_zero, List.set_cons_succ])))
              refine wpTh_tail rfl (by decide) (fun K hK => ?_)
              go_simp
              refine hK.out _ _ ?_; clear hK K; (try simp only [Act.put, List.setIfInBounds_toArray, List.set_cons_zero, List.set_cons_succ])
              refine wpTh_last rfl (by decide) (fun K hK => ?_)
              go_simp
              refine hK.out _ _ (NoPanic.normal ?_)
              clear hK K hHeld
              go_wp2_with fail
              refine (HKx.out _).mono ?_
              rintro e w2 ⟨rfl, rfl⟩
              go_wp2_with fail
              refine (HPx.out _ (Keeps.refl _ _).drew.drew).mono ?_
              rintro e w5 ⟨A, c1, rfl, o1, k5⟩
              have HO0 := Lib.hid o1
              have HK5 := Lib.hid ((Keeps.refl w []).drew.drew.trans k5)
              clear o1 k5
              go_wp2_with fail
              refine (HPy.out _ HK5.out).mono ?_
              rintro e wq ⟨B, c2, rfl, o2, k6⟩
              rw [HMx.out, HMy.out]
              have HO1 : Hid (wq.ownsRow w.heap.size 28 1 (.slice A m c1) m ((partsP H x).map (Value.int .u64))) := by
                have h := HO0.out
                rw [HMx.out] at h
                exact Lib.hid (own_keep0 h k6)
              have HO2 : Hid (wq.ownsRow w.heap.size 28 1 (.slice B m c2) m ((partsP H y).map (Value.int .u64))) := by
                rw [HMy.out] at o2
                exact Lib.hid (own_base o2 HK5.out.size)
              have HKq := Lib.hid (HK5.out.trans k6)
              clear o2 k6
              by_cases hm0 : m = 0
              · subst hm0
                have hzl : ((partsP H x).zip (partsP H y)) = [] := by rw [List.length_eq_zero_iff.1 HMx.out]; rfl
                have HZl := Lib.hid hzl
                clear hzl
                go_wp2_with fail
                go_loopw [14, 97] (fun x14 x97 wr => x97 = .int .i64 0 ∧ x14 = .slice none 0 0 ∧ Keeps wq wr []) (fun _ _ _ => 0)
                case atStart => exact ⟨rfl, rfl, Keeps.refl _ _⟩
                case round =>
                  obtain ⟨rfl, rfl, hkk⟩ := hrel
                  have HKK := Lib.hid hkk
                  clear hkk
                  go_wp2_with fail
                  go_ret2
                  rw [HRes.out]
                  have hq := HKq.out.trans HKK.out
                  refine ⟨none, 0, by rw [HZl.out]; rfl, by show _root_.Go.World.ownsRow _ _ _ _ (.slice none ((partsP H x).zip (partsP H y)).length 0) ((partsP H x).zip (partsP H y)).length (((partsP H x).zip (partsP H y)).flatMap prE); rw [HZl.out]; exact World.ownsRow_nil _ _ _ _, _, HPP.out.keep hq (by simp), HSt.of hq (by simp), by simp [ownL, Value.ownBlock]⟩
              · have HPos : Hid (0 < m) := Nat.pos_of_ne_zero hm0
                clear hm0
                have hA := row_blk HO1.out HPos.out
                obtain ⟨pa, cur1, hpA, hpa, hPA, hc1⟩ := hA
                obtain ⟨pb, cur2, hpB, hpb, hPB, hc2⟩ := row_blk HO2.out HPos.out
                subst hpA hpB
                have HPA := Lib.hid hPA
                have HPB := Lib.hid hPB
                have HC1 : Hid (∀ (j : Nat) (z : Int), (partsP H x)[j]? = some z → cur1[j]? = some (Value.int .u64 z)) := fun j z hz => hc1 j _ (by rw [List.getElem?_map, hz]; rfl)
                have HC2 : Hid (∀ (j : Nat) (z : Int), (partsP H y)[j]? = some z → cur2[j]? = some (Value.int .u64 z)) := fun j z hz => hc2 j _ (by rw [List.getElem?_map, hz]; rfl)
                have HLow := Lib.hid (And.intro hpa hpb)
                clear hPA hPB hc1 hc2 hpa hpb
                go_wp2_with fail
                go_loopw [14, 97] (fun x14 x97 wr => ∃ (j : Nat) (A2 : Option Addr) (c2 : Nat), j ≤ m ∧ x97 = .int .i64 j ∧ x14 = .slice A2 j c2 ∧ wr.ownsRow wq.heap.size 84 2 (.slice A2 j c2) j ((((partsP H x).zip (partsP H y)).take j).flatMap prE) ∧ Keeps wq wr []) (fun _ i _ => m - (intOf i).toNat)
                case atStart => exact ⟨0, none, 0, Nat.zero_le _, rfl, rfl, by rw [List.take_zero]; exact World.ownsRow_nil _ _ _ _, Keeps.refl _ _⟩
                case round =>
                  obtain ⟨j, A2, c2, hj, rfl, rfl, ho, hkk⟩ := hrel
                  have HO := Lib.hid ho
                  have HKK := Lib.hid hkk
                  clear ho hkk
                  by_cases hlt : j < m
                  · obtain ⟨u, hu⟩ := at_of HMx.out hlt
                    obtain ⟨v, hv⟩ := at_of HMy.out hlt
                    have hz : ((partsP H x).zip (partsP H y))[j]? = some (u, v) := by rw [List.getElem?_zip_eq_some]; exact ⟨hu, hv⟩
                    have x1 := (HPA.out.keep HKK.out (by simp)).cell j
                    have x2 := (HPB.out.keep HKK.out (by simp)).cell j
                    rw [HC1.out j u hu] at x1
                    rw [HC2.out j v hv] at x2
                    have HZ := Lib.hid hz
                    have b0 : (0 : Int) ≤ (j : Int) := Int.natCast_nonneg _
                    have b1 : (j : Int) < (m : Int) := by omega
                    clear hu hv hz
                    go_upto_region 20 with fail
                    have HW : Hid (∀ W', Keeps wr W' [] → W'.cell? ⟨pa, j, none⟩ = some (.int .u64 u) ∧ W'.cell? ⟨pb, j, none⟩ = some (.int .u64 v)) := fun W' kk => by
                      have a1 := ((HPA.out.keep HKK.out (by simp)).keep kk (by simp)).cell j
                      have a2 := ((HPB.out.keep HKK.out (by simp)).keep kk (by simp)).cell j
                      have s1 := (HPA.out.keep HKK.out (by simp)).cell j
                      have s2 := (HPB.out.keep HKK.out (by simp)).cell j
                      exact ⟨a1.trans (s1.symm.trans x1), a2.trans (s2.symm.trans x2)⟩
                    have hlast : ∀ (W' : World) (A' : Option Addr) (c' : Nat), W'.ownsRow wq.heap.size 84 2 (.slice A' (j + 1) c') (j + 1) ((((partsP H x).zip (partsP H y)).take j).flatMap prE ++ prE (u, v)) → W'.ownsRow wq.heap.size 84 2 (.slice A' (j + 1) c') (j + 1) ((((partsP H x).zip (partsP H y)).take (j + 1)).flatMap prE) := fun W' A' c' h => by
                      rw [List.take_add_one, HZ.out, List.flatMap_append, Option.toList_some, List.flatMap_singleton]
                      exact h
                    have HLa := Lib.hid hlast
                    clear hlast
                    refine wp_region_tx (fun W' => W'.cell? ⟨pa, j, none⟩ = some (.int .u64 u) ∧ W'.cell? ⟨pb, j, none⟩ = some (.int .u64 v)) [(0, true), (1, true), (2, true), (3, true), (4, true), (5, true), (6, true), (7, true), (8, true), (9, true), (10, false), (11, false), (12, false)] (by kernel_rfl) (by kernel_rfl) (HW.out _ (Keeps.refl _ _).drew) (fun hHeld => ?_)
                    (repeat (first | (refine wpTx_take (v := ?_) rfl (by assumption) ?_ (by rfl) ?_; rotate_left; (focus (intro w' hSw; (try dsimp only at hSw); go_simp; (try with_reducible rfl); done)); simp only [Act.put, List.setIfInBounds_toArray, List.set_cons_zero, List.set_cons_succ]) | (refine wpTx_skip rfl (by assumption) (by rfl) ?_; simp only [Act.put, List.setIfInBounds_toArray, List.set_cons_zero, List.set_cons_succ])))
                    refine wpTx_go rfl (fun K hK => ?_)
                    go_simp
                    refine hK.out _ _ ?_ ?_
                    · exact HW.out _ (((Keeps.refl _ []).drew).alloc _)
                    (clear hHeld; intro hHeld; clear hK K; (try simp only [Act.put, List.setIfInBounds_toArray, List.set_cons_zero, List.set_cons_succ]))
                    refine wpTx_go rfl (fun K hK => ?_)
                    have hm39 : m ≤ 1000 := HM9.out
                    refine step_app _ el_pr (by rfl) _ _ (by rfl) wq.heap.size A2 j c2 ((((partsP H x).zip (partsP H y)).take j).flatMap prE) (by rfl) (own_keep0 HO.out (((Keeps.refl _ []).drew).alloc _)) (some ⟨wr.heap.size, 0, none⟩) 1 1 (prE (u, v)) (by rfl) (Rd.one wr.drew _ (prE (u, v))) rfl (by simp) (by simp [prE, Value.oneCell']) (by omega) (by simp; have := HKK.out.size; omega) ?_
                    intro A' c' w5 hown hgrow hat
                    have HO5 := Lib.hid (HLa.out w5 A' c' hown)
                    have HK5 : Hid (Keeps wr w5 (ownL (.slice A2 j c2))) := ((((Keeps.refl wr []).drew).alloc _).to_ _).trans (Keeps.ofGrown hgrow)
                    have HK6 : Hid (Keeps wq w5 []) := by
                      have h := (HKK.out.to_ (ownL (.slice A2 j c2))).trans HK5.out
                      exact Lib.hid (h.more fun b hb hm' => by have := (own_lt HO.out hm').1; omega)
                    have hne1 : pa ∉ ownL (.slice A2 j c2) := fun hm' => by have := (own_lt HO.out hm').1; have := HPA.out.lt; omega
                    have hne2 : pb ∉ ownL (.slice A2 j c2) := fun hm' => by have := (own_lt HO.out hm').1; have := HPB.out.lt; omega
                    have HX5 : Hid (w5.cell? ⟨pa, j, none⟩ = some (.int .u64 u) ∧ w5.cell? ⟨pb, j, none⟩ = some (.int .u64 v)) := by
                      have a1 := (HPA.out.keep HK6.out (by simp)).cell j
                      have a2 := (HPB.out.keep HK6.out (by simp)).cell j
                      have s1 := (HPA.out.keep HKK.out (by simp)).cell j
                      have s2 := (HPB.out.keep HKK.out (by simp)).cell j
                      exact ⟨a1.trans (s1.symm.trans x1), a2.trans (s2.symm.trans x2)⟩
                    clear hown hgrow hat
                    refine hK.out _ _ ?_ ?_
                    · exact HX5.out
                    (clear hHeld; intro hHeld; clear hK K; (try simp only [Act.put, List.setIfInBounds_toArray, List.set_cons_zero, List.set_cons_succ]))
                    refine wpTx_last rfl (fun K hK => ?_)
                    go_simp
                    refine hK.out _ _ (NoPanic.normal ?_); clear hK K; (try simp only [Act.put, List.setIfInBounds_toArray, List.set_cons_zero, List.set_cons_succ])
                    clear hHeld x1 x2
                    go_wp2_with fail
                    go_roundw
                    case rel => exact ⟨j + 1, A', c', by omega, by go_num, rfl, HO5.out, HK6.out⟩
                    case measure => simp [intOf]; omega
                  · obtain rfl : m = j := by omega
                    clear hlt hj
                    go_wp2_with fail
                    go_ret2
                    have hzl : ((partsP H x).zip (partsP H y)).length = m := by rw [List.length_zip, HMx.out, HMy.out, Nat.min_self]
                    have ho := HO.out
                    rw [List.take_of_length_le (by rw [hzl]; exact Nat.le_refl _)] at ho
                    rw [HRes.out]
                    have hq := HKq.out.trans HKK.out
                    refine ⟨A2, c2, by rw [hzl]; rfl, ?_, _, HPP.out.keep hq (by simp), HSt.of hq (by simp), fun b hb' hm' => ?_⟩
                    · show _root_.Go.World.ownsRow _ _ _ _ (.slice A2 ((partsP H x).zip (partsP H y)).length c2) ((partsP H x).zip (partsP H y)).length _
                      rw [hzl]
                      exact own_base ho HKq.out.size
                    · rw [← ownL_slice A2 m c2] at hb'
                      have h1 := (own_lt HO.out hb').1
                      have h2 := HPP.out.lt b hm'
                      have := HKq.out.size
                      omega
            · rw [if_pos ⟨hk1, hFG⟩] at hoo
              have HRes := Lib.hid hoo.symm
              have en : (F != G) = true := by simpa using hFG
              have en2 : (F == G) = false := by simpa using hFG
              clear hoo stay hm ho hx hy hnt hxy hp hq hpp hqq hkx hky hkk ek ey hk2 e2 hk1 hFG hL hlen hfew HPx HPy
              go_enter Tryz.func36, Tryz.ntmps36
              go_wp2_with fail
              refine (HKx.out _).mono ?_
              rintro e w2 ⟨rfl, rfl⟩
              go_wp2_with fail
              refine (HKy.out _).mono ?_
              rintro e w2 ⟨rfl, rfl⟩
              go_wp2_with fail
              refine (HKx.out _).mono ?_
              rintro e w2 ⟨rfl, rfl⟩
              go_wp2_with fail
              refine (HKy.out _).mono ?_
              rintro e w2 ⟨rfl, rfl⟩
              go_wp2_with fail
              refine (HKx.out _).mono ?_
              rintro e w2 ⟨rfl, rfl⟩
              go_upto_region 11 with fail
              refine wp_region_th (fun W' => W'.cell? ⟨hb, 0, none⟩ = some (.pointer (some ⟨ag, 0, none⟩))) 10 [9] [(0, true), (1, true), (2, true), (3, true), (4, true), (5, false), (6, false), (7, true), (8, true), (9, true), (10, false), (11, false)] (by kernel_rfl) (by kernel_rfl) (by exact HS0.out) (fun hHeld => ?_)
              (repeat (first | (refine wpTh_take (v := ?_) rfl (by rfl) (by assumption) ?_ (by rfl) ?_; rotate_left; (focus (intro w' hSw; (try dsimp only at hSw); go_simp; (try with_reducible rfl); done)); simp only [Act.put, List.setIfInBounds_toArray, List.set_cons_zero, List.set_cons_succ]) | (refine wpTh_pure (v := ?_) rfl (by rfl) (by assumption) ?_ (by rfl) ?_; rotate_left; (focus (intro w'; go_simp; (try with_reducible rfl); done)); simp only [Act.put, List.setIfInBounds_toArray, List.set_cons_zero, List.set_cons_succ])))
              refine wpTh_go rfl (fun K hK => ?_)
              go_simp
              refine (HNx.out _).mono ?_
              rintro e w3 ⟨rfl, rfl⟩
              refine hK.out _ _ ?_ ?_
              · exact HS0.out
              (clear hHeld; intro hHeld; clear hK K; (try simp only [Act.put, List.setIfInBounds_toArray, List.set_cons_zero, List.set_cons_succ]))
              (repeat (first | (refine wpTh_take (v := ?_) rfl (by rfl) (by assumption) ?_ (by rfl) ?_; rotate_left; (focus (intro w' hSw; (try dsimp only at hSw); go_simp; (try with_reducible rfl); done)); simp only [Act.put, List.setIfInBounds_toArray, List.set_cons_zero, List.set_cons_succ]) | (refine wpTh_pure (v := ?_) rfl (by rfl) (by assumption) ?_ (by rfl) ?_; rotate_left; (focus (intro w'; go_simp; (try with_reducible rfl); done)); simp only [Act.put, List.setIfInBounds_toArray, List.set_cons_zero, List.set_cons_succ])))
              refine wpTh_go rfl (fun K hK => ?_)
              go_simp
              refine (HGx.out _ ((Keeps.refl _ _).drew)).mono ?_
              rintro e w4 ⟨rfl, rfl⟩
              refine hK.out _ _ ?_ ?_
              · exact HS0.out
              (clear hHeld; intro hHeld; clear hK K; (try simp only [Act.put, List.setIfInBounds_toArray, List.set_cons_zero, List.set_cons_succ]))
              (repeat (first | (refine wpTh_take (v := ?_) rfl (by rfl) (by assumption) ?_ (by rfl) ?_; rotate_left; (focus (intro w' hSw; (try dsimp only at hSw); go_simp; (try with_reducible rfl); done)); simp only [Act.put, List.setIfInBounds_toArray, List.set_cons_zero, List.set_cons_succ]) | (refine wpTh_pure (v := ?_) rfl (by rfl) (by assumption) ?_ (by rfl) ?_; rotate_left; (focus (intro w'; go_simp; (try with_reducible rfl); done)); simp only [Act.put, List.setIfInBounds_toArray, List.set_cons_zero, List.set_cons_succ])))
              refine wpTh_tail rfl (by decide) (fun K hK => ?_)
              go_simp
              refine hK.out _ _ ?_; clear hK K; (try simp only [Act.put, List.setIfInBounds_toArray, List.set_cons_zero, List.set_cons_succ])
              refine wpTh_last rfl (by decide) (fun K hK => ?_)
              go_simp
              refine hK.out _ _ (NoPanic.normal ?_)
              clear hK K hHeld
              go_upto_region 12 with fail
              refine wp_region_th (fun W' => W'.cell? ⟨hb, 0, none⟩ = some (.pointer (some ⟨ag, 0, none⟩))) 10 [9] [(0, true), (1, true), (2, true), (3, true), (4, true), (5, false), (6, false), (7, true), (8, true), (9, true), (10, false), (11, false)] (by kernel_rfl) (by kernel_rfl) (by exact HS0.out) (fun hHeld => ?_)
              (repeat (first | (refine wpTh_take (v := ?_) rfl (by rfl) (by assumption) ?_ (by rfl) ?_; rotate_left; (focus (intro w' hSw; (try dsimp only at hSw); go_simp; (try with_reducible rfl); done)); simp only [Act.put, List.setIfInBounds_toArray, List.set_cons_zero, List.set_cons_succ]) | (refine wpTh_pure (v := ?_) rfl (by rfl) (by assumption) ?_ (by rfl) ?_; rotate_left; (focus (intro w'; go_simp; (try with_reducible rfl); done)); simp only [Act.put, List.setIfInBounds_toArray, List.set_cons_zero, List.set_cons_succ])))
              refine wpTh_go rfl (fun K hK => ?_)
              go_simp
              refine (HNy.out _).mono ?_
              rintro e w3 ⟨rfl, rfl⟩
              refine hK.out _ _ ?_ ?_
              · exact HS0.out
              (clear hHeld; intro hHeld; clear hK K; (try simp only [Act.put, List.setIfInBounds_toArray, List.set_cons_zero, List.set_cons_succ]))
              (repeat (first | (refine wpTh_take (v := ?_) rfl (by rfl) (by assumption) ?_ (by rfl) ?_; rotate_left; (focus (intro w' hSw; (try dsimp only at hSw); go_simp; (try with_reducible rfl); done)); simp only [Act.put, List.setIfInBounds_toArray, List.set_cons_zero, List.set_cons_succ]) | (refine wpTh_pure (v := ?_) rfl (by rfl) (by assumption) ?_ (by rfl) ?_; rotate_left; (focus (intro w'; go_simp; (try with_reducible rfl); done)); simp only [Act.put, List.setIfInBounds_toArray, List.set_cons_zero, List.set_cons_succ])))
              refine wpTh_go rfl (fun K hK => ?_)
              go_simp
              refine (HGy.out _ ((Keeps.refl _ _).drew.drew)).mono ?_
              rintro e w4 ⟨rfl, rfl⟩
              refine hK.out _ _ ?_ ?_
              · exact HS0.out
              (clear hHeld; intro hHeld; clear hK K; (try simp only [Act.put, List.setIfInBounds_toArray, List.set_cons_zero, List.set_cons_succ]))
              (repeat (first | (refine wpTh_take (v := ?_) rfl (by rfl) (by assumption) ?_ (by rfl) ?_; rotate_left; (focus (intro w' hSw; (try dsimp only at hSw); go_simp; (try with_reducible rfl); done)); simp only [Act.put, List.setIfInBounds_toArray, List.set_cons_zero, List.set_cons_succ]) | (refine wpTh_pure (v := ?_) rfl (by rfl) (by assumption) ?_ (by rfl) ?_; rotate_left; (focus (intro w'; go_simp; (try with_reducible rfl); done)); simp only [Act.put, List.setIfInBounds_toArray, List.set_cons_zero, List.set_cons_succ])))
              refine wpTh_tail rfl (by decide) (fun K hK => ?_)
              go_simp
              refine hK.out _ _ ?_; clear hK K; (try simp only [Act.put, List.setIfInBounds_toArray, List.set_cons_zero, List.set_cons_succ])
              refine wpTh_last rfl (by decide) (fun K hK => ?_)
              go_simp
              refine hK.out _ _ (NoPanic.normal ?_)
              clear hK K hHeld
              go_wp2_with fail
              refine (HKx.out _).mono ?_
              rintro e w2 ⟨rfl, rfl⟩

              go_wp2_with fail
              go_ret2
              rw [HRes.out]
              exact ⟨rfl, L, HPP.out.keep (Keeps.refl _ []).drew.drew (by simp), HSt.of (Keeps.refl _ []).drew.drew (by simp)⟩
          · rw [if_neg (fun h => hk1 h.1)] at hoo
            have HRes := Lib.hid hoo.symm
            have hll := hlen (fun h => absurd h hk1)
            obtain ⟨m, hmx⟩ : ∃ m, (partsP H x).length = m := ⟨_, rfl⟩
            have HMx := Lib.hid hmx
            have HMy : Hid ((partsP H y).length = m) := hll.symm.trans hmx
            have HM9 : Hid (m ≤ 1000) := by rw [← hmx]; exact hfew
            have e1 : (kindOf x == 1) = false := by simpa using hk1
            generalize kindOf x = kx at HKx HKy ek ey e2 e1 hk1 hkk hk2 hkx
            have exx : (kx != kx) = false := by simp
            clear hoo stay hm ho hx hy hnt hxy hp hq hpp hqq hkx hky hkk hk2 hk1 hL hlen hfew hll hmx
            go_enter Tryz.func36, Tryz.ntmps36
            go_wp2_with fail
            refine (HKx.out _).mono ?_
            rintro e w2 ⟨rfl, rfl⟩
            go_wp2_with fail
            refine (HKy.out _).mono ?_
            rintro e w2 ⟨rfl, rfl⟩
            go_wp2_with fail
            refine (HKx.out _).mono ?_
            rintro e w2 ⟨rfl, rfl⟩
            go_wp2_with fail
            refine (HKy.out _).mono ?_
            rintro e w2 ⟨rfl, rfl⟩
            go_wp2_with fail
            refine (HKx.out _).mono ?_
            rintro e w2 ⟨rfl, rfl⟩
            go_upto_region 11 with fail
            refine wp_region_th (fun W' => W'.cell? ⟨hb, 0, none⟩ = some (.pointer (some ⟨ag, 0, none⟩))) 10 [9] [(0, true), (1, true), (2, true), (3, true), (4, true), (5, false), (6, false), (7, true), (8, true), (9, true), (10, false), (11, false)] (by kernel_rfl) (by kernel_rfl) (by exact HS0.out) (fun hHeld => ?_)
            (repeat (first | (refine wpTh_take (v := ?_) rfl (by rfl) (by assumption) ?_ (by rfl) ?_; rotate_left; (focus (intro w' hSw; (try dsimp only at hSw); go_simp; (try with_reducible rfl); done)); simp only [Act.put, List.setIfInBounds_toArray, List.set_cons_zero, List.set_cons_succ]) | (refine wpTh_pure (v := ?_) rfl (by rfl) (by assumption) ?_ (by rfl) ?_; rotate_left; (focus (intro w'; go_simp; (try with_reducible rfl); done)); simp only [Act.put, List.setIfInBounds_toArray, List.set_cons_zero, List.set_cons_succ])))
            refine wpTh_go rfl (fun K hK => ?_)
            go_simp
            refine (HNx.out _).mono ?_
            rintro e w3 ⟨rfl, rfl⟩
            refine hK.out _ _ ?_ ?_
            · exact HS0.out
            (clear hHeld; intro hHeld; clear hK K; (try simp only [Act.put, List.setIfInBounds_toArray, List.set_cons_zero, List.set_cons_succ]))
            (repeat (first | (refine wpTh_take (v := ?_) rfl (by rfl) (by assumption) ?_ (by rfl) ?_; rotate_left; (focus (intro w' hSw; (try dsimp only at hSw); go_simp; (try with_reducible rfl); done)); simp only [Act.put, List.setIfInBounds_toArray, List.set_cons_zero, List.set_cons_succ]) | (refine wpTh_pure (v := ?_) rfl (by rfl) (by assumption) ?_ (by rfl) ?_; rotate_left; (focus (intro w'; go_simp; (try with_reducible rfl); done)); simp only [Act.put, List.setIfInBounds_toArray, List.set_cons_zero, List.set_cons_succ])))
            refine wpTh_go rfl (fun K hK => ?_)
            go_simp
            refine (HGx.out _ ((Keeps.refl _ _).drew)).mono ?_
            rintro e w4 ⟨rfl, rfl⟩
            refine hK.out _ _ ?_ ?_
            · exact HS0.out
            (clear hHeld; intro hHeld; clear hK K; (try simp only [Act.put, List.setIfInBounds_toArray, List.set_cons_zero, List.set_cons_succ]))
            (repeat (first | (refine wpTh_take (v := ?_) rfl (by rfl) (by assumption) ?_ (by rfl) ?_; rotate_left; (focus (intro w' hSw; (try dsimp only at hSw); go_simp; (try with_reducible rfl); done)); simp only [Act.put, List.setIfInBounds_toArray, List.set_cons_zero, List.set_cons_succ]) | (refine wpTh_pure (v := ?_) rfl (by rfl) (by assumption) ?_ (by rfl) ?_; rotate_left; (focus (intro w'; go_simp; (try with_reducible rfl); done)); simp only [Act.put, List.setIfInBounds_toArray, List.set_cons_zero, List.set_cons_succ])))
            refine wpTh_tail rfl (by decide) (fun K hK => ?_)
            go_simp
            refine hK.out _ _ ?_; clear hK K; (try simp only [Act.put, List.setIfInBounds_toArray, List.set_cons_zero, List.set_cons_succ])
            refine wpTh_last rfl (by decide) (fun K hK => ?_)
            go_simp
            refine hK.out _ _ (NoPanic.normal ?_)
            clear hK K hHeld
            go_upto_region 12 with fail
            refine wp_region_th (fun W' => W'.cell? ⟨hb, 0, none⟩ = some (.pointer (some ⟨ag, 0, none⟩))) 10 [9] [(0, true), (1, true), (2, true), (3, true), (4, true), (5, false), (6, false), (7, true), (8, true), (9, true), (10, false), (11, false)] (by kernel_rfl) (by kernel_rfl) (by exact HS0.out) (fun hHeld => ?_)
            (repeat (first | (refine wpTh_take (v := ?_) rfl (by rfl) (by assumption) ?_ (by rfl) ?_; rotate_left; (focus (intro w' hSw; (try dsimp only at hSw); go_simp; (try with_reducible rfl); done)); simp only [Act.put, List.setIfInBounds_toArray, List.set_cons_zero, List.set_cons_succ]) | (refine wpTh_pure (v := ?_) rfl (by rfl) (by assumption) ?_ (by rfl) ?_; rotate_left; (focus (intro w'; go_simp; (try with_reducible rfl); done)); simp only [Act.put, List.setIfInBounds_toArray, List.set_cons_zero, List.set_cons_succ])))
            refine wpTh_go rfl (fun K hK => ?_)
            go_simp
            refine (HNy.out _).mono ?_
            rintro e w3 ⟨rfl, rfl⟩
            refine hK.out _ _ ?_ ?_
            · exact HS0.out
            (clear hHeld; intro hHeld; clear hK K; (try simp only [Act.put, List.setIfInBounds_toArray, List.set_cons_zero, List.set_cons_succ]))
            (repeat (first | (refine wpTh_take (v := ?_) rfl (by rfl) (by assumption) ?_ (by rfl) ?_; rotate_left; (focus (intro w' hSw; (try dsimp only at hSw); go_simp; (try with_reducible rfl); done)); simp only [Act.put, List.setIfInBounds_toArray, List.set_cons_zero, List.set_cons_succ]) | (refine wpTh_pure (v := ?_) rfl (by rfl) (by assumption) ?_ (by rfl) ?_; rotate_left; (focus (intro w'; go_simp; (try with_reducible rfl); done)); simp only [Act.put, List.setIfInBounds_toArray, List.set_cons_zero, List.set_cons_succ])))
            refine wpTh_go rfl (fun K hK => ?_)
            go_simp
            refine (HGy.out _ ((Keeps.refl _ _).drew.drew)).mono ?_
            rintro e w4 ⟨rfl, rfl⟩
            refine hK.out _ _ ?_ ?_
            · exact HS0.out
            (clear hHeld; intro hHeld; clear hK K; (try simp only [Act.put, List.setIfInBounds_toArray, List.set_cons_zero, List.set_cons_succ]))
            (repeat (first | (refine wpTh_take (v := ?_) rfl (by rfl) (by assumption) ?_ (by rfl) ?_; rotate_left; (focus (intro w' hSw; (try dsimp only at hSw); go_simp; (try with_reducible rfl); done)); simp only [Act.put, List.setIfInBounds_toArray, List.set_cons_zero, List.set_cons_succ]) | (refine wpTh_pure (v := ?_) rfl (by rfl) (by assumption) ?_ (by rfl) ?_; rotate_left; (focus (intro w'; go_simp; (try with_reducible rfl); done)); simp only [Act.put, List.setIfInBounds_toArray, List.set_cons_zero, List.set_cons_succ])))
            refine wpTh_tail rfl (by decide) (fun K hK => ?_)
            go_simp
            refine hK.out _ _ ?_; clear hK K; (try simp only [Act.put, List.setIfInBounds_toArray, List.set_cons_zero, List.set_cons_succ])
            refine wpTh_last rfl (by decide) (fun K hK => ?_)
            go_simp
            refine hK.out _ _ (NoPanic.normal ?_)
            clear hK K hHeld
            go_wp2_with fail
            refine (HKx.out _).mono ?_
            rintro e w2 ⟨rfl, rfl⟩
            go_wp2_with fail
            refine (HPx.out _ (Keeps.refl _ _).drew.drew).mono ?_
            rintro e w5 ⟨A, c1, rfl, o1, k5⟩
            have HO0 := Lib.hid o1
            have HK5 := Lib.hid ((Keeps.refl w []).drew.drew.trans k5)
            clear o1 k5
            go_wp2_with fail
            refine (HPy.out _ HK5.out).mono ?_
            rintro e wq ⟨B, c2, rfl, o2, k6⟩
            rw [HMx.out, HMy.out]
            have HO1 : Hid (wq.ownsRow w.heap.size 28 1 (.slice A m c1) m ((partsP H x).map (Value.int .u64))) := by
              have h := HO0.out
              rw [HMx.out] at h
              exact Lib.hid (own_keep0 h k6)
            have HO2 : Hid (wq.ownsRow w.heap.size 28 1 (.slice B m c2) m ((partsP H y).map (Value.int .u64))) := by
              rw [HMy.out] at o2
              exact Lib.hid (own_base o2 HK5.out.size)
            have HKq := Lib.hid (HK5.out.trans k6)
            clear o2 k6
            by_cases hm0 : m = 0
            · subst hm0
              have hzl : ((partsP H x).zip (partsP H y)) = [] := by rw [List.length_eq_zero_iff.1 HMx.out]; rfl
              have HZl := Lib.hid hzl
              clear hzl
              go_wp2_with fail
              go_loopw [14, 97] (fun x14 x97 wr => x97 = .int .i64 0 ∧ x14 = .slice none 0 0 ∧ Keeps wq wr []) (fun _ _ _ => 0)
              case atStart => exact ⟨rfl, rfl, Keeps.refl _ _⟩
              case round =>
                obtain ⟨rfl, rfl, hkk⟩ := hrel
                have HKK := Lib.hid hkk
                clear hkk
                go_wp2_with fail
                go_ret2
                rw [HRes.out]
                have hq := HKq.out.trans HKK.out
                refine ⟨none, 0, by rw [HZl.out]; rfl, by show _root_.Go.World.ownsRow _ _ _ _ (.slice none ((partsP H x).zip (partsP H y)).length 0) ((partsP H x).zip (partsP H y)).length (((partsP H x).zip (partsP H y)).flatMap prE); rw [HZl.out]; exact World.ownsRow_nil _ _ _ _, _, HPP.out.keep hq (by simp), HSt.of hq (by simp), by simp [ownL, Value.ownBlock]⟩
            · have HPos : Hid (0 < m) := Nat.pos_of_ne_zero hm0
              clear hm0
              have hA := row_blk HO1.out HPos.out
              obtain ⟨pa, cur1, hpA, hpa, hPA, hc1⟩ := hA
              obtain ⟨pb, cur2, hpB, hpb, hPB, hc2⟩ := row_blk HO2.out HPos.out
              subst hpA hpB
              have HPA := Lib.hid hPA
              have HPB := Lib.hid hPB
              have HC1 : Hid (∀ (j : Nat) (z : Int), (partsP H x)[j]? = some z → cur1[j]? = some (Value.int .u64 z)) := fun j z hz => hc1 j _ (by rw [List.getElem?_map, hz]; rfl)
              have HC2 : Hid (∀ (j : Nat) (z : Int), (partsP H y)[j]? = some z → cur2[j]? = some (Value.int .u64 z)) := fun j z hz => hc2 j _ (by rw [List.getElem?_map, hz]; rfl)
              have HLow := Lib.hid (And.intro hpa hpb)
              clear hPA hPB hc1 hc2 hpa hpb
              go_wp2_with fail
              go_loopw [14, 97] (fun x14 x97 wr => ∃ (j : Nat) (A2 : Option Addr) (c2 : Nat), j ≤ m ∧ x97 = .int .i64 j ∧ x14 = .slice A2 j c2 ∧ wr.ownsRow wq.heap.size 84 2 (.slice A2 j c2) j ((((partsP H x).zip (partsP H y)).take j).flatMap prE) ∧ Keeps wq wr []) (fun _ i _ => m - (intOf i).toNat)
              case atStart => exact ⟨0, none, 0, Nat.zero_le _, rfl, rfl, by rw [List.take_zero]; exact World.ownsRow_nil _ _ _ _, Keeps.refl _ _⟩
              case round =>
                obtain ⟨j, A2, c2, hj, rfl, rfl, ho, hkk⟩ := hrel
                have HO := Lib.hid ho
                have HKK := Lib.hid hkk
                clear ho hkk
                by_cases hlt : j < m
                · obtain ⟨u, hu⟩ := at_of HMx.out hlt
                  obtain ⟨v, hv⟩ := at_of HMy.out hlt
                  have hz : ((partsP H x).zip (partsP H y))[j]? = some (u, v) := by rw [List.getElem?_zip_eq_some]; exact ⟨hu, hv⟩
                  have x1 := (HPA.out.keep HKK.out (by simp)).cell j
                  have x2 := (HPB.out.keep HKK.out (by simp)).cell j
                  rw [HC1.out j u hu] at x1
                  rw [HC2.out j v hv] at x2
                  have HZ := Lib.hid hz
                  have b0 : (0 : Int) ≤ (j : Int) := Int.natCast_nonneg _
                  have b1 : (j : Int) < (m : Int) := by omega
                  clear hu hv hz
                  go_upto_region 20 with fail
                  have HW : Hid (∀ W', Keeps wr W' [] → W'.cell? ⟨pa, j, none⟩ = some (.int .u64 u) ∧ W'.cell? ⟨pb, j, none⟩ = some (.int .u64 v)) := fun W' kk => by
                    have a1 := ((HPA.out.keep HKK.out (by simp)).keep kk (by simp)).cell j
                    have a2 := ((HPB.out.keep HKK.out (by simp)).keep kk (by simp)).cell j
                    have s1 := (HPA.out.keep HKK.out (by simp)).cell j
                    have s2 := (HPB.out.keep HKK.out (by simp)).cell j
                    exact ⟨a1.trans (s1.symm.trans x1), a2.trans (s2.symm.trans x2)⟩
                  have hlast : ∀ (W' : World) (A' : Option Addr) (c' : Nat), W'.ownsRow wq.heap.size 84 2 (.slice A' (j + 1) c') (j + 1) ((((partsP H x).zip (partsP H y)).take j).flatMap prE ++ prE (u, v)) → W'.ownsRow wq.heap.size 84 2 (.slice A' (j + 1) c') (j + 1) ((((partsP H x).zip (partsP H y)).take (j + 1)).flatMap prE) := fun W' A' c' h => by
                    rw [List.take_add_one, HZ.out, List.flatMap_append, Option.toList_some, List.flatMap_singleton]
                    exact h
                  have HLa := Lib.hid hlast
                  clear hlast
                  refine wp_region_tx (fun W' => W'.cell? ⟨pa, j, none⟩ = some (.int .u64 u) ∧ W'.cell? ⟨pb, j, none⟩ = some (.int .u64 v)) [(0, true), (1, true), (2, true), (3, true), (4, true), (5, true), (6, true), (7, true), (8, true), (9, true), (10, false), (11, false), (12, false)] (by kernel_rfl) (by kernel_rfl) (HW.out _ (Keeps.refl _ _).drew) (fun hHeld => ?_)
                  (repeat (first | (refine wpTx_take (v := ?_) rfl (by assumption) ?_ (by rfl) ?_; rotate_left; (focus (intro w' hSw; (try dsimp only at hSw); go_simp; (try with_reducible rfl); done)); simp only [Act.put, List.setIfInBounds_toArray, List.set_cons_zero, List.set_cons_succ]) | (refine wpTx_skip rfl (by assumption) (by rfl) ?_; simp only [Act.put, List.setIfInBounds_toArray, List.set_cons_zero, List.set_cons_succ])))
                  refine wpTx_go rfl (fun K hK => ?_)
                  go_simp
                  refine hK.out _ _ ?_ ?_
                  · exact HW.out _ (((Keeps.refl _ []).drew).alloc _)
                  (clear hHeld; intro hHeld; clear hK K; (try simp only [Act.put, List.setIfInBounds_toArray, List.set_cons_zero, List.set_cons_succ]))
                  refine wpTx_go rfl (fun K hK => ?_)
                  have hm39 : m ≤ 1000 := HM9.out
                  refine step_app _ el_pr (by rfl) _ _ (by rfl) wq.heap.size A2 j c2 ((((partsP H x).zip (partsP H y)).take j).flatMap prE) (by rfl) (own_keep0 HO.out (((Keeps.refl _ []).drew).alloc _)) (some ⟨wr.heap.size, 0, none⟩) 1 1 (prE (u, v)) (by rfl) (Rd.one wr.drew _ (prE (u, v))) rfl (by simp) (by simp [prE, Value.oneCell']) (by omega) (by simp; have := HKK.out.size; omega) ?_
                  intro A' c' w5 hown hgrow hat
                  have HO5 := Lib.hid (HLa.out w5 A' c' hown)
                  have HK5 : Hid (Keeps wr w5 (ownL (.slice A2 j c2))) := ((((Keeps.refl wr []).drew).alloc _).to_ _).trans (Keeps.ofGrown hgrow)
                  have HK6 : Hid (Keeps wq w5 []) := by
                    have h := (HKK.out.to_ (ownL (.slice A2 j c2))).trans HK5.out
                    exact Lib.hid (h.more fun b hb hm' => by have := (own_lt HO.out hm').1; omega)
                  have hne1 : pa ∉ ownL (.slice A2 j c2) := fun hm' => by have := (own_lt HO.out hm').1; have := HPA.out.lt; omega
                  have hne2 : pb ∉ ownL (.slice A2 j c2) := fun hm' => by have := (own_lt HO.out hm').1; have := HPB.out.lt; omega
                  have HX5 : Hid (w5.cell? ⟨pa, j, none⟩ = some (.int .u64 u) ∧ w5.cell? ⟨pb, j, none⟩ = some (.int .u64 v)) := by
                    have a1 := (HPA.out.keep HK6.out (by simp)).cell j
                    have a2 := (HPB.out.keep HK6.out (by simp)).cell j
                    have s1 := (HPA.out.keep HKK.out (by simp)).cell j
                    have s2 := (HPB.out.keep HKK.out (by simp)).cell j
                    exact ⟨a1.trans (s1.symm.trans x1), a2.trans (s2.symm.trans x2)⟩
                  clear hown hgrow hat
                  refine hK.out _ _ ?_ ?_
                  · exact HX5.out
                  (clear hHeld; intro hHeld; clear hK K; (try simp only [Act.put, List.setIfInBounds_toArray, List.set_cons_zero, List.set_cons_succ]))
                  refine wpTx_last rfl (fun K hK => ?_)
                  go_simp
                  refine hK.out _ _ (NoPanic.normal ?_); clear hK K; (try simp only [Act.put, List.setIfInBounds_toArray, List.set_cons_zero, List.set_cons_succ])
                  clear hHeld x1 x2
                  go_wp2_with fail
                  go_roundw
                  case rel => exact ⟨j + 1, A', c', by omega, by go_num, rfl, HO5.out, HK6.out⟩
                  case measure => simp [intOf]; omega
                · obtain rfl : m = j := by omega
                  clear hlt hj
                  go_wp2_with fail
                  go_ret2
                  have hzl : ((partsP H x).zip (partsP H y)).length = m := by rw [List.length_zip, HMx.out, HMy.out, Nat.min_self]
                  have ho := HO.out
                  rw [List.take_of_length_le (by rw [hzl]; exact Nat.le_refl _)] at ho
                  rw [HRes.out]
                  have hq := HKq.out.trans HKK.out
                  refine ⟨A2, c2, by rw [hzl]; rfl, ?_, _, HPP.out.keep hq (by simp), HSt.of hq (by simp), fun b hb' hm' => ?_⟩
                  · show _root_.Go.World.ownsRow _ _ _ _ (.slice A2 ((partsP H x).zip (partsP H y)).length c2) ((partsP H x).zip (partsP H y)).length _
                    rw [hzl]
                    exact own_base ho HKq.out.size
                  · rw [← ownL_slice A2 m c2] at hb'
                    have h1 := (own_lt HO.out hb').1
                    have h2 := HPP.out.lt b hm'
                    have := HKq.out.size
                    omega
end Go.Proofs.YtnonfmaehfmigaaGreatDoor

/- slices.Reverse at pairs of cells. Printed by gen_hprev.py. -/
namespace Go.Proofs.YtnonfmaehfmigaaGreatDoor
open Go.RowKit Go.Maps
theorem flat_set : ∀ (l : List (Int × Int)) (i : Nat) (p : Int × Int), ((l.flatMap prE).set (i * 2) (.int .u64 p.1)).set (i * 2 + 1) (.int .u64 p.2) = (l.set i p).flatMap prE
  | [], i, p => by simp
  | a :: l, 0, p => by simp [prE]
  | a :: l, i + 1, p => by
    have h := flat_set l i p
    rw [show (i + 1) * 2 = i * 2 + 1 + 1 by omega, List.set_cons_succ, List.flatMap_cons, List.flatMap_cons, ← h]
    rfl
theorem own_atP {w : World} {base n c size : Nat} {e : TypeId} {A : Option Addr} {xs : List Value} (h : w.ownsRow base e size (.slice A n c) n xs) (hn : 0 < n) : ∃ g, A = some ⟨g, 0, none⟩ ∧ n ≤ c := by
  rcases h.2 with ⟨_, h1⟩ | ⟨g, cap, cur, h1, h2, h3, h4, _⟩
  · omega
  · injection h1 with h1 _ h8
    subst h8
    exact ⟨g, h1, h4⟩
theorem own_shortP {w : World} {base n m c size : Nat} {e : TypeId} {A : Option Addr} {xs ys : List Value} (h : w.ownsRow base e size (.slice A n c) n (xs ++ ys)) (hx : xs.length = m * size) (hmn : m ≤ n) (hA : A ≠ none) : w.ownsRow base e size (.slice A m c) m xs := by
  refine ⟨hx, ?_⟩
  rcases h.2 with ⟨h1, _⟩ | ⟨g, cap, cur, h1, h2, h3, h4, h5, h6, h7⟩
  · injection h1 with h1; exact absurd h1 hA
  · injection h1 with h1 _ h8
    subst h1 h8
    refine .inr ⟨g, c, cur, rfl, h2, h3, by omega, h5, h6, ?_⟩
    have := congrArg (List.take (m * size)) h7
    rw [List.take_take, Nat.min_eq_left (Nat.mul_le_mul_right _ hmn), ← hx, List.take_left] at this
    rw [← hx]
    exact this
def revN (l : List (Int × Int)) : Nat → List (Int × Int)
  | 0 => l
  | k + 1 => ((revN l k).set k ((revN l k).getD (l.length - 1 - k) (0, 0))).set (l.length - 1 - k) ((revN l k).getD k (0, 0))
theorem revN_len (l : List (Int × Int)) : ∀ k, (revN l k).length = l.length
  | 0 => rfl
  | k + 1 => by rw [revN, List.length_set, List.length_set, revN_len l k]
theorem rev_at (l : List (Int × Int)) : ∀ k, 2 * k ≤ l.length → ∀ p, p < l.length → (revN l k)[p]? = if p < k ∨ l.length - k ≤ p then l[l.length - 1 - p]? else l[p]?
  | 0, _, p, hp => by rw [revN, if_neg (by omega)]
  | k + 1, hk, p, hp => by
    have ih := rev_at l k (by omega)
    have hl := revN_len l k
    have h1 : (revN l k).getD (l.length - 1 - k) (0, 0) = (l[l.length - 1 - k]?).getD (0, 0) := by rw [List.getD_eq_getElem?_getD, ih _ (by omega), if_neg (by omega)]
    have h2 : (revN l k).getD k (0, 0) = (l[k]?).getD (0, 0) := by rw [List.getD_eq_getElem?_getD, ih _ (by omega), if_neg (by omega)]
    have g : ∀ i, i < l.length → l[i]? = some ((l[i]?).getD (0, 0)) := fun i hi => by rw [List.getElem?_eq_getElem hi]; rfl
    rw [revN, h1, h2]
    by_cases hj : p = l.length - 1 - k
    · subst hj
      rw [List.getElem?_set_self (by rw [List.length_set]; omega), if_pos (by omega), show l.length - 1 - (l.length - 1 - k) = k by omega]
      exact (g k (by omega)).symm
    · rw [List.getElem?_set_ne (by omega)]
      by_cases hi : p = k
      · subst hi
        rw [List.getElem?_set_self (by omega), if_pos (by omega)]
        exact (g _ (by omega)).symm
      · rw [List.getElem?_set_ne (by omega), ih p hp]
        by_cases h : p < k ∨ l.length - k ≤ p
        · rw [if_pos h, if_pos (by omega)]
        · rw [if_neg h, if_neg (by omega)]
theorem rev_done (l : List (Int × Int)) (k : Nat) (h : 2 * k ≤ l.length) (h2 : l.length ≤ 2 * k + 1) : revN l k = l.reverse := by
  refine List.ext_getElem? fun p => ?_
  by_cases hp : p < l.length
  · rw [rev_at l k h p hp, List.getElem?_reverse hp]
    split
    · rfl
    · rw [show l.length - 1 - p = p by omega]
  · rw [List.getElem?_eq_none (by rw [revN_len]; omega), List.getElem?_eq_none (by rw [List.length_reverse]; omega)]
set_option maxRecDepth 100000 in
set_option maxHeartbeats 3200000 in
theorem rev_any {w : World} {base n c : Nat} {A : Option Addr} (l : List (Int × Int)) (hl : l.length = n) (hn : n ≤ 1000000) (ho : w.ownsRow base 84 2 (.slice A n c) n (l.flatMap prE)) :
    Calls Tryz.prog 37 #[.slice A n c] w fun e w' => e = .returned (.tuple #[]) ∧ w'.ownsRow base 84 2 (.slice A n c) n (l.reverse.flatMap prE) ∧ Keeps w w' (ownL (.slice A 0 0)) := by
  have HO := Lib.hid ho
  have HL := Lib.hid hl
  have bn : (0 : Int) ≤ (n : Int) := Int.natCast_nonneg _
  clear ho hl
  go_enter Tryz.func37, Tryz.ntmps37
  go_wp2_with fail
  go_loopw [2, 3] (fun x2 x3 wr => ∃ k : Nat, 2 * k ≤ n ∧ x2 = .int .i64 k ∧ x3 = .int .i64 ((n : Int) - 1 - k) ∧ wr.ownsRow base 84 2 (.slice A n c) n ((revN l k).flatMap prE) ∧ Keeps w wr (ownL (.slice A 0 0))) (fun i _ _ => n - (intOf i).toNat)
  case atStart => exact ⟨0, by omega, rfl, by simp, HO.out, Keeps.refl _ _⟩
  case round =>
    obtain ⟨k, hk, rfl, rfl, ho, hkk⟩ := hrel
    have HKK := Lib.hid hkk
    have HO1 := Lib.hid ho
    clear hkk
    by_cases hlt : 2 * k + 2 ≤ n
    · obtain ⟨j, hj⟩ : ∃ j, n - 1 - k = j := ⟨_, rfl⟩
      have hji : (n : Int) - 1 - k = (j : Int) := by omega
      obtain ⟨g, hA, hcap⟩ := own_atP ho (by omega)
      subst hA
      have hlen := revN_len l k
      rw [HL.out] at hlen
      have HLn := Lib.hid hlen
      have gk : (revN l k)[k]? = some ((revN l k).getD k (0, 0)) := by rw [List.getD_eq_getElem?_getD, List.getElem?_eq_getElem (by omega)]; rfl
      have gj : (revN l k)[j]? = some ((revN l k).getD j (0, 0)) := by rw [List.getD_eq_getElem?_getD, List.getElem?_eq_getElem (by omega)]; rfl
      obtain ⟨a, ha⟩ : ∃ a, (revN l k).getD k (0, 0) = a := ⟨_, rfl⟩
      obtain ⟨b, hb⟩ : ∃ b, (revN l k).getD j (0, 0) = b := ⟨_, rfl⟩
      rw [ha] at gk
      rw [hb] at gj
      obtain ⟨g1, o1, e1, _, f1⟩ := (Rd.of_own ho).field prE_len gk (by omega)
      obtain ⟨g2, o2, e2, _, f2⟩ := (Rd.of_own ho).field prE_len gj (by omega)
      injection e1 with e1
      injection e1 with e1 e1'
      injection e2 with e2
      injection e2 with e2 e2'
      subst e1 e1' e2 e2'
      have x0 := f1 0 _ rfl
      have x1 := f1 1 _ rfl
      have y0 := f2 0 _ rfl
      have y1 := f2 1 _ rfl
      have z0 := ho.frozenAt (0 + k * 2)
      have z1 := ho.frozenAt (0 + k * 2 + 1)
      have z2 := ho.frozenAt (0 + j * 2)
      have z3 := ho.frozenAt (0 + j * 2 + 1)
      simp only [Nat.zero_add] at x0 x1 y0 y1 z0 z1 z2 z3
      simp only [Nat.add_zero] at x0 y0
      have HNx : Hid (revN l (k + 1) = ((revN l k).set k b).set j a) := by show _ = _; rw [revN, HL.out, hj, ha, hb]
      have dlt : decide ((k : Int) < (j : Int)) = true := by simp; omega
      have dlt2 : decide (k < j) = true := by simp; omega
      have b0 : (0 : Int) ≤ (k : Int) := Int.natCast_nonneg _
      have b1 : (k : Int) < (n : Int) := by omega
      have b2 : (0 : Int) ≤ (j : Int) := Int.natCast_nonneg _
      have b3 : (j : Int) < (n : Int) := by omega
      have HJ := Lib.hid hj
      have HLt := Lib.hid hlt
      have hne : k * 2 ≠ j * 2 := by omega
      have hne1 : k * 2 ≠ j * 2 + 1 := by omega
      have hne2 : k * 2 + 1 ≠ j * 2 := by omega
      have hne3 : k * 2 + 1 ≠ j * 2 + 1 := by omega
      rw [hji]
      clear ho hlen gk gj ha hb f1 f2 hj hji hcap hlt
      go_upto_region 3 with fail
      have HW : Hid ((wr.drew.cell? ⟨g, k * 2, none⟩ = some (.int .u64 a.1) ∧ wr.drew.cell? ⟨g, k * 2 + 1, none⟩ = some (.int .u64 a.2) ∧ wr.drew.cell? ⟨g, j * 2, none⟩ = some (.int .u64 b.1) ∧ wr.drew.cell? ⟨g, j * 2 + 1, none⟩ = some (.int .u64 b.2))) := Lib.hid (And.intro x0 (And.intro x1 (And.intro y0 y1)))
      refine wp_region_th (fun W' => (W'.cell? ⟨g, k * 2, none⟩ = some (.int .u64 a.1) ∧ W'.cell? ⟨g, k * 2 + 1, none⟩ = some (.int .u64 a.2) ∧ W'.cell? ⟨g, j * 2, none⟩ = some (.int .u64 b.1) ∧ W'.cell? ⟨g, j * 2 + 1, none⟩ = some (.int .u64 b.2))) 12 [2, 3] [(0, true), (1, true), (4, true), (5, true), (6, true), (7, true), (8, true), (9, true), (10, true), (11, true), (2, true), (3, true), (12, false), (13, false), (14, false), (15, false)] (by kernel_rfl) (by kernel_rfl) (by exact HW.out) (fun hHeld => ?_)
      (repeat (first | (refine wpTh_take (v := ?_) rfl (by rfl) (by assumption) ?_ (by rfl) ?_; rotate_left; (focus (intro w' hSw; (try dsimp only at hSw); go_simp; (try with_reducible rfl); done)); simp only [Act.put, List.setIfInBounds_toArray, List.set_cons_zero, List.set_cons_succ]) | (refine wpTh_pure (v := ?_) rfl (by rfl) (by assumption) ?_ (by rfl) ?_; rotate_left; (focus (intro w'; go_simp; (try with_reducible rfl); done)); simp only [Act.put, List.setIfInBounds_toArray, List.set_cons_zero, List.set_cons_succ])))
      refine wpTh_tail rfl (by decide) (fun K hK => ?_)
      go_simp
      refine hK.out _ _ ?_; clear hK K; (try simp only [Act.put, List.setIfInBounds_toArray, List.set_cons_zero, List.set_cons_succ])
      refine wpTh_tail rfl (by decide) (fun K hK => ?_)
      go_simp
      refine hK.out _ _ ?_; clear hK K; (try simp only [Act.put, List.setIfInBounds_toArray, List.set_cons_zero, List.set_cons_succ])
      refine wpTh_tail rfl (by decide) (fun K hK => ?_)
      go_simp
      refine hK.out _ _ ?_; clear hK K; (try simp only [Act.put, List.setIfInBounds_toArray, List.set_cons_zero, List.set_cons_succ])
      refine wpTh_last rfl (by decide) (fun K hK => ?_)
      go_simp
      refine hK.out _ _ (NoPanic.normal ?_)
      clear hK K hHeld
      have hst : ((((wr.setCell ⟨g, k * 2, none⟩ (.int .u64 b.1)).setCell ⟨g, k * 2 + 1, none⟩ (.int .u64 b.2)).setCell ⟨g, j * 2, none⟩ (.int .u64 a.1)).setCell ⟨g, j * 2 + 1, none⟩ (.int .u64 a.2)).ownsRow base 84 2 (.slice (some ⟨g, 0, none⟩) n c) n ((revN l (k + 1)).flatMap prE) := by
        have h := ((((HO1.out.stored (k * 2) (.int .u64 b.1)).1.stored (k * 2 + 1) (.int .u64 b.2)).1.stored (j * 2) (.int .u64 a.1)).1.stored (j * 2 + 1) (.int .u64 a.2)).1
        rw [flat_set _ k b, flat_set _ j a] at h
        rw [HNx.out]
        exact h
      have hks : Keeps wr ((((wr.setCell ⟨g, k * 2, none⟩ (.int .u64 b.1)).setCell ⟨g, k * 2 + 1, none⟩ (.int .u64 b.2)).setCell ⟨g, j * 2, none⟩ (.int .u64 a.1)).setCell ⟨g, j * 2 + 1, none⟩ (.int .u64 a.2)) (ownL (.slice (some ⟨g, 0, none⟩) 0 0)) := ((((Keeps.refl wr _).setCell (.inl (by simp [ownL, Value.ownBlock])) _).setCell (.inl (by simp [ownL, Value.ownBlock])) _).setCell (.inl (by simp [ownL, Value.ownBlock])) _).setCell (.inl (by simp [ownL, Value.ownBlock])) _
      have HSt := Lib.hid hst
      have HKs := Lib.hid hks
      clear hst hks x0 x1 y0 y1 z0 z1 z2 z3 hne hne1 hne2 hne3 dlt dlt2
      go_wp2_with fail
      go_roundw
      case rel => exact ⟨k + 1, by have := HLt.out; omega, by go_num, by have := HJ.out; have := HLt.out; go_num, HSt.out.drew, (HKK.out.trans HKs.out).drew⟩
      case measure => have := HLt.out; simp [intOf]; omega
    · have hd : decide ((k : Int) < (n : Int) - 1 - k) = false := by simp; omega
      have HR : Hid (revN l k = l.reverse) := rev_done l k (by rw [HL.out]; omega) (by rw [HL.out]; omega)
      clear ho hlt
      go_wp2_with fail
      go_end0
      have h := HO1.out
      rw [HR.out] at h
      exact ⟨rfl, h, HKK.out⟩
end Go.Proofs.YtnonfmaehfmigaaGreatDoor

/- The program's Unify. Printed by gen_hpunify.py. -/
namespace Go.Proofs.YtnonfmaehfmigaaGreatDoor
open Go.RowKit Go.Maps
theorem wrapM (m : Nat) (h : m ≤ 1000000000) : wrap64 (m : Int) = (m : Int) := by
  unfold wrap64
  omega
def CellsOk (st : List (Int × Int)) : Prop := ∀ q ∈ st, (0 ≤ q.1 ∧ q.1 < 18446744073709551616 ∧ right q.1 = true) ∧ 0 ≤ q.2 ∧ q.2 < 18446744073709551616 ∧ right q.2 = true
/-- What stands between two steps. -/
structure UniS (w wr : World) (base hb : Nat) (L : List Nat) (R : (PH × List Int) × (Bool × Int)) (mk : List (Int × Int)) (room k : Nat) (S : PH × List Int) (st : List (Int × Int)) (LA : Option Addr) (ln lc : Nat) (L' : List Nat) (n0 : Nat) : Prop where
  hp : Hp wr base hb L' S.1 S.2 mk room
  hst : HSt w L wr L'
  own : wr.ownsRow w.heap.size 84 2 (.slice LA ln lc) ln (st.reverse.flatMap prE)
  len : st.length = ln
  out : ∀ b ∈ ownL (.slice LA 0 0), b ∉ L'
  ok : HOk S.1
  cells : CellsOk st
  few : ln ≤ 1 + k * 1000
  trf : S.2.length ≤ n0 + k
  run : unifyP mk (4096 - k) S st = R
  kk : k ≤ 4096
theorem HSt.keepN {w a b : World} {L L' M : List Nat} (h : HSt w L a L') (k : Keeps a b M) (hM : ∀ x ∈ M, w.heap.size ≤ x) : HSt w L b L' :=
  ⟨⟨k.os.trans h.keep.os, k.tape.trans h.keep.tape, k.output.trans h.keep.output, Nat.le_trans h.keep.size k.size, fun i hi hn => (k.block i (Nat.lt_of_lt_of_le hi h.keep.size) (fun hm => by have := hM i hm; omega)).trans (h.keep.block i hi hn)⟩, h.own⟩
section
variable {w wr : World} {base hb : Nat} {L : List Nat} {R : (PH × List Int) × (Bool × Int)} {mk : List (Int × Int)} {room k : Nat} {S : PH × List Int} {st : List (Int × Int)} {LA : Option Addr} {ln lc : Nat} {L' : List Nat} {n0 : Nat}
theorem UniS.bytes (h : UniS w wr base hb L R mk room k S st LA ln lc L' n0) : ∀ x ∈ S.1.cells, 0 ≤ x ∧ x < 18446744073709551616 := by
  obtain ⟨ag, ah, vb, AA, FA, TA, MA, ca, nt, ct, nm, cm, cf, _, hm⟩ := h.hp
  exact hm.ar.bytes
/-- The topmost pair. -/
theorem UniS.pop {p : Int × Int} (h : UniS w wr base hb L R mk room k S (p :: st) LA ln lc L' n0) : ∃ m lg, ln = m + 1 ∧ LA = some ⟨lg, 0, none⟩ ∧ m + 1 ≤ lc ∧ wr.cell? ⟨lg, m * 2, none⟩ = some (.int .u64 p.1) ∧ wr.cell? ⟨lg, m * 2 + 1, none⟩ = some (.int .u64 p.2) ∧ lg < wr.heap.size ∧ lg ∉ L' ∧ w.heap.size ≤ lg ∧ wr.ownsRow w.heap.size 84 2 (.slice LA m lc) m (st.reverse.flatMap prE) := by
  have hk := h.len
  simp only [List.length_cons] at hk
  obtain ⟨lg, hLA, hlc⟩ := own_atP h.own (by omega)
  have ho := h.own
  have hR := Rd.of_own ho
  rw [List.reverse_cons] at hR
  have hf : (st.reverse ++ [p])[st.length]? = some p := by simp
  obtain ⟨b', off', e, hbl, hcell⟩ := hR.field prE_len hf (by omega)
  rw [hLA] at e
  injection e with e
  injection e with e1 e2
  subst e1 e2
  have c0 := hcell 0 _ rfl
  have c1 := hcell 1 _ rfl
  simp only [Nat.zero_add, Nat.add_zero] at c0 c1
  have hm : lg ∈ ownL (.slice LA 0 0) := by rw [hLA]; simp [ownL, Value.ownBlock]
  refine ⟨st.length, lg, hk.symm, hLA, by omega, c0, c1, hbl, h.out lg hm, ?_, ?_⟩
  · rw [← ownL_slice LA ln lc] at hm
    exact (own_lt h.own hm).1
  · rw [List.reverse_cons, List.flatMap_append] at ho
    exact own_shortP ho (by rw [length_flat prE_len, List.length_reverse]) (by omega) (by rw [hLA]; simp)
end
set_option maxRecDepth 100000 in
set_option maxHeartbeats 6400000 in
theorem hunify_any {w : World} {base hb : Nat} {L : List Nat} {H : PH} {tr : List Int} {mk : List (Int × Int)} {room : Nat} (hH : Hp w base hb L H tr mk room) (ho : HOk H) (a b : Int) (hab : CellsOk [(a, b)]) (hnt : tr.length ≤ 100000) :
    Calls Tryz.prog 15 #[.pointer (some ⟨hb, 0, none⟩), .int .u64 a, .int .u64 b] w fun e w' => e = .returned (.tuple #[.bool (unifyP mk 4096 (H, tr) [(a, b)]).2.1, .int .i64 (unifyP mk 4096 (H, tr) [(a, b)]).2.2]) ∧ HpD w base hb L (unifyP mk 4096 (H, tr) [(a, b)]).1 mk room w' := by
  obtain ⟨R, hR⟩ : ∃ R, unifyP mk 4096 (H, tr) [(a, b)] = R := ⟨_, rfl⟩
  rw [hR]
  have hlt := hH.lt
  have hK0 : Keeps w (w.alloc (.cells #[.int .u64 a, .int .u64 b] 84)) [] := (Keeps.refl w []).alloc _
  have HU0 : Hid (UniS w (w.alloc (.cells #[.int .u64 a, .int .u64 b] 84)) base hb L R mk room 0 (H, tr) [(a, b)] (some ⟨w.heap.size, 0, none⟩) 1 1 L tr.length) := by
    refine ⟨hH.keep hK0 (by simp), (HSt.refl w L).keep0 hK0, ⟨by simp [prE], .inr ⟨w.heap.size, 1, #[.int .u64 a, .int .u64 b], rfl, Nat.le_refl _, Blk.new _ _ _, Nat.le_refl _, by decide, by simp, by simp [prE]⟩⟩, rfl, fun b hb' hm => ?_, ho, hab, by omega, by simp, hR, by omega⟩
    have := hlt b hm
    simp [ownL, Value.ownBlock] at hb'
    omega
  have HNT := Lib.hid hnt
  clear hH ho hab hnt hR hlt hK0
  go_enter Tryz.func15, Tryz.ntmps15
  go_wp2_with fail
  go_loopw [8, 9] (fun x8 x9 wr => ∃ (k : Nat) (S : PH × List Int) (st : List (Int × Int)) (LA : Option Addr) (ln lc : Nat) (L' : List Nat), x8 = .slice LA ln lc ∧ x9 = .int .i64 k ∧ UniS w wr base hb L R mk room k S st LA ln lc L' tr.length) (fun _ x9 _ => 4097 - (intOf x9).toNat)
  case atStart => exact ⟨0, (H, tr), [(a, b)], some ⟨w.heap.size, 0, none⟩, 1, 1, L, rfl, rfl, HU0.out⟩
  case round =>
    clear HU0
    obtain ⟨k, S, st, LA, ln, lc, L', rfl, rfl, hus⟩ := hrel
    have HS := Lib.hid hus
    cases st with
    | nil =>
      obtain rfl : ln = 0 := by have := hus.len; simpa using this.symm
      have HRes : Hid (R = (S, (true, 0))) := by
        have := hus.run
        cases hk : 4096 - k <;> (rw [hk] at this; rw [unifyP] at this; exact Lib.hid this.symm)
      clear hus
      go_wp2_with fail
      go_ret2
      rw [HRes.out]
      exact ⟨rfl, L', HS.out.hp, HS.out.hst⟩
    | cons p st =>
      obtain ⟨m, lg, rfl, rfl, hlc, c0, c1, hlg, hlgL, hlgw, hown⟩ := hus.pop
      by_cases hk : k = 4096
      · subst hk
        have HRes : Hid (R = (S, (false, 2))) := by
          have := hus.run
          rw [show 4096 - 4096 = 0 by rfl, unifyP] at this
          exact Lib.hid this.symm
        have b1 : (0 : Int) < (m : Int) + 1 := by omega
        clear hus c0 c1 hlg hlgL hlgw hown
        go_wp2_with fail
        go_ret2
        rw [HRes.out]
        exact ⟨rfl, L', HS.out.hp, HS.out.hst⟩
      · have hk4 := hus.kk
        have ek : ((k : Int) == 4096) = false := by simp; omega
        have ek2 : (k == 4096) = false := by simpa using hk
        have hfew := hus.few
        have b0 : (0 : Int) ≤ (m : Int) := Int.natCast_nonneg _
        have b1 : (m : Int) < (m : Int) + 1 := by omega
        have b2 : wrap64 (m : Int) = (m : Int) := wrapM m (by omega)
        have b3 : (m : Int) ≤ (lc : Int) := by omega
        have b4 : (0 : Int) < (m : Int) + 1 := by omega
        have HOn := Lib.hid hown
        have HLG := Lib.hid (And.intro hlg (And.intro hlgL hlgw))
        obtain ⟨ag, ah, vb, AA, FA, TA, MA, ca, nt, ct, nm, cm, cf, hL', hm⟩ := hus.hp
        obtain ⟨q1, q2⟩ := hus.cells p (by simp)
        have HD1 : Hid (∀ W, Keeps wr W [] → Calls Tryz.prog 35 #[.pointer (some ⟨hb, 0, none⟩), .int .u64 p.1] W fun e w' => e = .returned (.tuple #[.int .u64 ((derefP S.1 p.1).getD 0), .bool (derefP S.1 p.1).isSome]) ∧ Keeps W w' []) := fun W kk => deref_any (hm.keep0 kk) hus.ok p.1 q1.1 q1.2.1 q1.2.2
        have HD2 : Hid (∀ W, Keeps wr W [] → Calls Tryz.prog 35 #[.pointer (some ⟨hb, 0, none⟩), .int .u64 p.2] W fun e w' => e = .returned (.tuple #[.int .u64 ((derefP S.1 p.2).getD 0), .bool (derefP S.1 p.2).isSome]) ∧ Keeps W w' []) := fun W kk => deref_any (hm.keep0 kk) hus.ok p.2 q2.1 q2.2.1 q2.2.2
        have hby := hus.bytes
        have hrun := hus.run
        rw [show 4096 - k = (4095 - k) + 1 by omega, unifyP] at hrun
        have htop1 : ∀ x, derefP S.1 p.1 = some x → Top S.1 x := fun x h => Top.of hus.ok hby q1.1 q1.2.1 q1.2.2 h
        have htop2 : ∀ x, derefP S.1 p.2 = some x → Top S.1 x := fun x h => Top.of hus.ok hby q2.1 q2.2.1 q2.2.2 h
        have hnt : S.2.length ≤ 1000000 := by have := hus.trf; have := HNT.out; omega
        have hC1 : ∀ W, Keeps wr W [] → W.cell? ⟨lg, m * 2 + 1, none⟩ = some (.int .u64 p.2) := fun W kk => (kk.cell (p := ⟨lg, m * 2 + 1, none⟩) hlg (by simp)).trans c1
        have HC1 := Lib.hid hC1
        have HK4 := Lib.hid (And.intro hk hk4)
        have HFw := Lib.hid hfew
        cases h1 : derefP S.1 p.1 with
        | none =>
          rw [h1] at hrun HD1
          simp only at hrun
          have HRes : Hid (R = (S, (false, 1))) := hrun.symm
          generalize derefP S.1 p.2 = o2 at HD2
          clear hus hm hby hrun htop1 htop2 hk hk4 q1 q2 h1 hC1 hfew hown hlg hlgL hlgw hL' c1 hnt
          go_wp2_with fail
          refine (HD1.out _ (Keeps.refl _ _)).mono ?_
          rintro e w2 ⟨rfl, k2⟩
          have HK2 := Lib.hid k2
          have c1 := HC1.out w2 k2
          clear k2 c0
          go_wp2_with fail
          refine (HD2.out _ HK2.out).mono ?_
          rintro e w3 ⟨rfl, k3⟩
          have HK3 := Lib.hid (HK2.out.trans k3)
          clear k3 c1
          go_wp2_with fail
          go_ret2
          rw [HRes.out]
          exact ⟨rfl, L', HS.out.hp.keep HK3.out (by simp), HS.out.hst.keep0 HK3.out⟩
        | some x =>
          rw [h1] at hrun HD1
          cases h2 : derefP S.1 p.2 with
          | none =>
            rw [h2] at hrun HD2
            simp only at hrun
            have HRes : Hid (R = (S, (false, 1))) := hrun.symm
            clear hus hm hby hrun htop1 htop2 hk hk4 q1 q2 h1 h2 hC1 hfew hown hlg hlgL hlgw hL' c1 hnt
            go_wp2_with fail
            refine (HD1.out _ (Keeps.refl _ _)).mono ?_
            rintro e w2 ⟨rfl, k2⟩
            have HK2 := Lib.hid k2
            have c1 := HC1.out w2 k2
            clear k2 c0
            go_wp2_with fail
            refine (HD2.out _ HK2.out).mono ?_
            rintro e w3 ⟨rfl, k3⟩
            have HK3 := Lib.hid (HK2.out.trans k3)
            clear k3 c1
            go_wp2_with fail
            go_ret2
            rw [HRes.out]
            exact ⟨rfl, L', HS.out.hp.keep HK3.out (by simp), HS.out.hst.keep0 HK3.out⟩
          | some y =>
            rw [h2] at hrun HD2
            simp only at hrun
            have HMe : Hid (∀ W, Keeps wr W [] → Calls Tryz.prog 36 #[.pointer (some ⟨hb, 0, none⟩), .int .u64 x, .int .u64 y] W (MeetD W base hb L' S mk room (meetP mk S x y))) := fun W kk => meet_any (hus.hp.keep kk (by simp)) hus.ok x y (htop1 x h1) (htop2 y h2) hnt
            have HOkM : Hid (∀ r, meetP mk S x y = some r → BindOk mk S r.1 ∧ CellsOk r.2) := fun r hr => meet_okP hus.ok hby (htop1 x h1) (htop2 y h2) hr
            have HLen : Hid (∀ r, meetP mk S x y = some r → r.2.length ≤ 1000) := fun r hr => meet_few hus.ok hr
            cases h3 : meetP mk S x y with
            | none =>
              rw [h3] at hrun HMe
              simp only at hrun
              have HRes : Hid (R = (S, (false, 0))) := hrun.symm
              clear hus hm hby hrun htop1 htop2 hk hk4 q1 q2 h1 h2 hC1 hfew hown hlg hlgL hlgw hL' c1 hnt h3
              go_wp2_with fail
              refine (HD1.out _ (Keeps.refl _ _)).mono ?_
              rintro e w2 ⟨rfl, k2⟩
              have HK2 := Lib.hid k2
              have c1 := HC1.out w2 k2
              clear k2 c0
              go_wp2_with fail
              refine (HD2.out _ HK2.out).mono ?_
              rintro e w3 ⟨rfl, k3⟩
              have HK3 := Lib.hid (HK2.out.trans k3)
              clear k3 c1
              go_wp2_with fail
              refine (HMe.out _ HK3.out).mono ?_
              rintro e w4 ⟨rfl, L4, hp4, st4⟩
              have HP4 := Lib.hid hp4
              have HS4 := Lib.hid st4
              clear hp4 st4
              go_wp2_with fail
              go_ret2
              rw [HRes.out]
              exact ⟨rfl, L4, HP4.out, (HS.out.hst.keep0 HK3.out).trans HS4.out⟩
            | some r =>
              rw [h3] at hrun HMe
              simp only at hrun
              obtain ⟨hbo, hco⟩ := HOkM.out r h3
              have hrl := HLen.out r h3
              have HRun := Lib.hid hrun
              have HBo := Lib.hid (And.intro hbo hco)
              have HRl := Lib.hid hrl
              obtain ⟨n, hn⟩ : ∃ n, r.2.length = n := ⟨_, rfl⟩
              have HN := Lib.hid hn
              clear hus hm hby hrun htop1 htop2 hk hk4 q1 q2 h1 h2 hC1 hfew hown hlg hlgL hlgw hL' c1 hnt h3 hbo hco hrl hn
              go_wp2_with fail
              refine (HD1.out _ (Keeps.refl _ _)).mono ?_
              rintro e w2 ⟨rfl, k2⟩
              have HK2 := Lib.hid k2
              have c1 := HC1.out w2 k2
              clear k2 c0
              go_wp2_with fail
              refine (HD2.out _ HK2.out).mono ?_
              rintro e w3 ⟨rfl, k3⟩
              have HK3 := Lib.hid (HK2.out.trans k3)
              clear k3 c1
              go_wp2_with fail
              refine (HMe.out _ HK3.out).mono ?_
              rintro e w4 ⟨A, c, rfl, o4, L4, hp4, st4, out4⟩
              rw [HN.out] at o4 ⊢
              have HP4 := Lib.hid hp4
              have HS4 := Lib.hid st4
              have HO4 := Lib.hid o4
              have HOut4 := Lib.hid out4
              clear hp4 st4 o4 out4
              go_wp2_with fail
              refine (rev_any r.2 HN.out (by have := HRl.out; have := HN.out; omega) HO4.out).mono ?_
              rintro e w5 ⟨rfl, o5, k5⟩
              have HO5 := Lib.hid o5
              have HK5 := Lib.hid k5
              clear o5 k5
              have hz3 := HK3.out.size
              have hz4 := HS4.out.keep.size
              have hz5 := HK5.out.size
              have hz0 := HS.out.hst.keep.size
              obtain ⟨hlg, hlgL, hlgw⟩ := HLG.out
              have hA : ∀ b ∈ ownL (.slice A 0 0), w3.heap.size ≤ b := fun b hb' => by
                rw [← ownL_slice A n c] at hb'
                exact (own_lt HO4.out hb').1
              have ol4 := own_keepL (own_keep0 HOn.out HK3.out) HS4.out.keep (fun b hb' hm => by simp [ownL, Value.ownBlock] at hm; subst hm; exact hlgL hb')
              have ol5 := own_keepL ol4 HK5.out (fun b hb' hm => by simp [ownL, Value.ownBlock] at hm; subst hm; have := hA _ hb'; omega)
              have HOL := Lib.hid ol5
              have HAz : Hid (A = none → c = 0) := fun e => by subst e; exact own_zeroN HO4.out
              have hrl := HRl.out
              rw [HN.out] at hrl
              have hfw := HFw.out
              have hk4 := HK4.out
              have HBs := Lib.hid (And.intro hrl (And.intro hfw (And.intro hk4.1 hk4.2)))
              have hmn : m + n ≤ 549755813888 := by have := hk4.2; omega
              have hbase : w.heap.size ≤ w5.heap.size := by omega
              have bk0 : (0 : Int) ≤ (k : Int) := Int.natCast_nonneg _
              have bk1 : (k : Int) ≤ 4095 := by have h1 := hk4.1; have h2 := hk4.2; omega
              clear hz3 hz4 hz5 hz0 hlg hlgL hlgw hA ol4 ol5 hrl hfw hk4
              go_wp2_with (at_builtin; refine wpList_app _ el_pr rfl (.tmp 75) (.tmp 76) rfl w.heap.size (some ⟨lg, 0, none⟩) m lc (st.reverse.flatMap prE) rfl HOL.out A n c (r.2.reverse.flatMap prE) rfl (Rd.of_own HO5.out) (by rw [length_flat prE_len, List.length_reverse, HN.out]) HAz.out (prE_one _) hmn hbase ?_; intro A' c' w6 hown hgrow hat; have HAp := Lib.hid (And.intro hown (And.intro hgrow hat)); clear hown hgrow hat)
              go_roundw
              case rel =>
                obtain ⟨hown, hgrow, hat⟩ := HAp.out
                obtain ⟨hlg, hlgL, hlgw⟩ := HLG.out
                obtain ⟨hrl, hfw, hk1, hk2⟩ := HBs.out
                have hz3 := HK3.out.size
                have hz4 := HS4.out.keep.size
                have hz5 := HK5.out.size
                have hz0 := HS.out.hst.keep.size
                have hlg4 : lg ∉ L4 := fun hm => by
                  rcases HS4.out.own lg hm with h1 | h1
                  · exact hlgL h1
                  · omega
                have hA : ∀ b ∈ ownL (.slice A 0 0), w.heap.size ≤ b := fun b hb' => by
                  rw [← ownL_slice A n c] at hb'
                  have := (own_lt HO4.out hb').1
                  omega
                have kg : Keeps w5 w6 [lg] := by
                  have h := Keeps.ofGrown hgrow
                  simpa [ownL, Value.ownBlock] using h
                have hlt4 := HP4.out.lt
                refine ⟨k + 1, r.1, r.2 ++ st, A', m + n, c', L4, rfl, by go_num, ⟨(HP4.out.keep HK5.out (fun b hb' => HOut4.out b hb')).keep kg (by simpa using hlg4), (((HS.out.hst.keep0 HK3.out).trans HS4.out).keepN HK5.out hA).keepN kg (by simpa using hlgw), by rw [List.reverse_append, List.flatMap_append]; exact hown, by rw [List.length_append, HN.out]; have := HS.out.len; simp at this; omega, fun b hb' hm => ?_, HBo.out.1.ok, fun q hq => (List.mem_append.1 hq).elim (HBo.out.2 q) (fun h => HS.out.cells q (by simp [h])), by omega, by have := HBo.out.1.few; have := HS.out.trf; omega, by rw [show 4096 - (k + 1) = 4095 - k by omega]; exact HRun.out, by omega⟩⟩
                rw [← ownL_slice A' (m + n) c'] at hb'
                unfold ownL at hb'
                simp only [Option.mem_toList] at hb'
                rcases hat with h1 | h1
                · rw [h1] at hb'
                  simp [Value.ownBlock] at hb'
                  subst hb'
                  exact hlg4 hm
                · rw [h1] at hb'
                  simp at hb'
                  have := hlt4 b hm
                  omega
              case measure => have := HBs.out.2.2.2; have := HBs.out.2.2.1; simp [intOf]; omega
end Go.Proofs.YtnonfmaehfmigaaGreatDoor

/- Variables' places, some of which go: a map of numbers in a list's words; maps.DeleteFunc. -/
namespace Go.Proofs
open Go.Shelf
def Tryz.delInt_ren : Go.Shelf.Ren := ⟨fun | 5 => 40 | n => n, fun | 23 => 68 | 24 => 3 | 26 => 3 | 27 => 93 | n => n, fun | n => n⟩
theorem Tryz.delInt : Go.Proofs.SlLaysDf.n5 Tryz.prog Tryz.delInt_ren := {
  mixed := by kernel_rfl
  f5 := ⟨Tryz.f40.name, by decide, Tryz.func40.trans (congrArg some (by kernel_rfl))⟩
  t0 := Tryz.underlying0
  a0 := Tryz.isAgg0
  z0 := Tryz.sizeOf0
  v0 := Tryz.zeroValue0
  t4 := Tryz.underlying4
  a4 := Tryz.isAgg4
  z4 := Tryz.sizeOf4
  v4 := Tryz.zeroValue4
  t23 := Tryz.underlying68
  a23 := Tryz.isAgg68
  z23 := Tryz.sizeOf68
  v23 := Tryz.zeroValue68
  a24 := Tryz.isAgg3
  z24 := Tryz.sizeOf3
  a26 := Tryz.isAgg3
  z26 := Tryz.sizeOf3
  t27 := Tryz.underlying93
  a27 := Tryz.isAgg93
  z27 := Tryz.sizeOf93
  v27 := Tryz.zeroValue93 }
end Go.Proofs
namespace Go.Proofs.YtnonfmaehfmigaaGreatDoor
open Go.RowKit Go.Maps Go.WideElems
theorem key_inv {v : Value} {l : Lit} (h : keyOf Tryz.prog 3 v = some l) : ∃ a, v = .int .i64 a ∧ l = .int .i64 a ∧ I64 a := by
  have hu := Tryz.underlying3
  cases v <;> simp [keyOf, hu, mapKey] at h
  obtain ⟨⟨rfl, hw⟩, rfl⟩ := h
  refine ⟨_, rfl, rfl, ?_⟩
  simp [Lit.wf, IntKind.min, IntKind.max, IntKind.signed, IntKind.bits] at hw
  exact ⟨by omega, by omega⟩
/-- An entry. -/
def ent (p : Int × Int) : Lit × DataW Unit := (.int .i64 p.1, .lit (.int .i64 p.2))
/-- A map of numbers, as a list. -/
structure KV (f : Int → Option Int) (kv : List (Int × Int)) : Prop where
  apart : kv.Pairwise fun p q => p.1 ≠ q.1
  key : ∀ p ∈ kv, I64 p.1
  at_ : ∀ x, I64 x → f x = (kv.find? fun p => decide (p.1 = x)).map (·.2)
theorem find_ent (x : Int) : ∀ kv : List (Int × Int), (kv.map ent).find? (fun p => p.1.sameKey (.int .i64 x)) = (kv.find? fun p => decide (p.1 = x)).map ent
  | [] => rfl
  | p :: kv => by
    rw [List.map_cons, List.find?_cons, List.find?_cons, find_ent x kv]
    have e : (ent p).1.sameKey (.int .i64 x) = decide (p.1 = x) := by simp [ent, Lit.sameKey]
    rw [e]
    cases decide (p.1 = x) <;> rfl
theorem any_ent (x : Int) (kv : List (Int × Int)) : Maps.has (.map (kv.map ent)) (.int .i64 x) = (kv.find? fun p => decide (p.1 = x)).isSome := by
  rw [Maps.has_eq, List.any_map]
  induction kv with
  | nil => rfl
  | cons p kv ih =>
    rw [List.any_cons, List.find?_cons, ih]
    have e : ((fun q : Lit × DataW Unit => q.1.sameKey (.int .i64 x)) ∘ ent) p = decide (p.1 = x) := by simp [ent, Lit.sameKey]
    rw [e]
    cases decide (p.1 = x) <;> rfl
theorem find_has (x : Int) (kv : List (Int × Int)) : Maps.has (.map (kv.map ent)) (.int .i64 x) = (kv.find? fun p => decide (p.1 = x)).isSome ∧ (DataW.map (kv.map ent)).atKey (.int .i64 x) (.lit (.int .i64 0)) = .lit (.int .i64 (((kv.find? fun p => decide (p.1 = x)).map (·.2)).getD 0)) := by
  refine ⟨any_ent x kv, ?_⟩
  unfold DataW.atKey
  simp only
  rw [find_ent]
  cases kv.find? fun p => decide (p.1 = x) with
  | none => rfl
  | some p => rfl
theorem VM.kv {w : World} {b n : Nat} {f : Int → Option Int} (h : VM w b n f) : ∃ kv, w.ownsMap Tryz.prog 3 (plainElem Tryz.prog 3) b n (.map (kv.map ent)) ∧ KV f kv := by
  obtain ⟨D, h1, h2⟩ := h
  obtain ⟨L, hD, hap, hkl⟩ := h1.entries law_int
  have hent : ∀ p ∈ L, ∃ a c, p = ent (a, c) ∧ I64 a := by
    obtain ⟨es, clock, hb, F, hs, hD2⟩ := h1
    rw [hD] at hD2
    injection hD2 with hD2
    intro p hp
    rw [hD2] at hp
    obtain ⟨x, hx, rfl⟩ := List.mem_map.1 (mem_sorted.1 hp)
    obtain ⟨y, hy⟩ := F.reads x hx
    rw [rg_of hy]
    obtain ⟨a, _, ha, hi⟩ := key_inv (rd_key hy)
    obtain ⟨z, hz, hz2⟩ := rd_val hy
    obtain ⟨c, _, hc, _⟩ := plainElem_int_inv Tryz.underlying3 hz
    rw [hc] at hz2
    exact ⟨a, c, Prod.ext ha hz2, hi⟩
  have dec : ∃ kv : List (Int × Int), L = kv.map ent ∧ ∀ p ∈ kv, I64 p.1 := by
    clear hD hap hkl
    induction L with
    | nil => exact ⟨[], rfl, by simp⟩
    | cons p L ih =>
      obtain ⟨kv, rfl, hk⟩ := ih fun q hq => hent q (by simp [hq])
      obtain ⟨a, c, rfl, hi⟩ := hent p (by simp)
      exact ⟨(a, c) :: kv, rfl, fun q hq => by rcases List.mem_cons.1 hq with rfl | hq; exact hi; exact hk q hq⟩
  obtain ⟨kv, rfl, hk⟩ := dec
  refine ⟨kv, hD ▸ h1, ⟨?_, hk, fun x hx => ?_⟩⟩
  · rw [List.pairwise_map] at hap
    exact hap.imp fun hne e => hne (by simp [ent, e])
  · obtain ⟨g1, g2⟩ := h2 x hx
    rw [hD] at g1 g2
    obtain ⟨k1, k2⟩ := find_has x kv
    rw [k1] at g1
    rw [k2] at g2
    injection g2 with g2
    injection g2 with _ g2
    cases hf : f x with
    | none =>
      rw [hf] at g1
      cases hk : kv.find? fun p => decide (p.1 = x) with
      | none => rfl
      | some p => rw [hk] at g1; cases g1
    | some v =>
      rw [hf] at g1 g2
      cases hk : kv.find? fun p => decide (p.1 = x) with
      | none => rw [hk] at g1; cases g1
      | some p => rw [hk] at g2; simp at g2 ⊢; exact g2.symm
/-- Those that stay. -/
def keepV (f : Int → Option Int) (c : Int) : Int → Option Int := fun x => (f x).filter fun p => decide (p < c)
theorem KV.mem {f : Int → Option Int} {kv : List (Int × Int)} (h : KV f kv) {p : Int × Int} (hp : p ∈ kv) : f p.1 = some p.2 := by
  rw [h.at_ p.1 (h.key p hp)]
  have hap := h.apart
  clear h
  induction kv with
  | nil => cases hp
  | cons q kv ih =>
    rw [List.find?_cons]
    obtain ⟨h1, h2⟩ := List.pairwise_cons.1 hap
    rcases List.mem_cons.1 hp with rfl | hp
    · simp
    · have hne : decide (q.1 = p.1) = false := by simpa using h1 p hp
      rw [hne]
      exact ih hp h2
theorem find_filter (x c : Int) : ∀ kv : List (Int × Int), kv.Pairwise (fun p q => p.1 ≠ q.1) → ((kv.filter fun p => decide (p.2 < c)).find? fun p => decide (p.1 = x)).map (·.2) = ((kv.find? fun p => decide (p.1 = x)).map (·.2)).filter fun p => decide (p < c)
  | [], _ => rfl
  | q :: kv, hap => by
    obtain ⟨h1, h2⟩ := List.pairwise_cons.1 hap
    have ih := find_filter x c kv h2
    rw [List.find?_cons]
    by_cases hq : q.1 = x
    · have none : kv.find? (fun p => decide (p.1 = x)) = none := by
        rw [List.find?_eq_none]
        intro p hp
        have := h1 p hp
        simp
        omega
      rw [decide_eq_true hq]
      simp only [Option.map_some]
      by_cases hc : q.2 < c
      · rw [List.filter_cons_of_pos (by simpa using hc), List.find?_cons, decide_eq_true hq]
        simp [Option.filter, hc]
      · rw [List.filter_cons_of_neg (by simpa using hc), ih, none]
        simp [Option.filter, hc]
    · rw [decide_eq_false hq]
      simp only
      by_cases hc : q.2 < c
      · rw [List.filter_cons_of_pos (by simpa using hc), List.find?_cons, decide_eq_false hq]
        exact ih
      · rw [List.filter_cons_of_neg (by simpa using hc)]
        exact ih
theorem KV.keep {f : Int → Option Int} {kv : List (Int × Int)} (h : KV f kv) (c : Int) : KV (keepV f c) (kv.filter fun p => decide (p.2 < c)) :=
  ⟨h.apart.filter _, fun p hp => h.key p (List.mem_filter.1 hp).1, fun x hx => by unfold keepV; rw [h.at_ x hx, find_filter x c kv h.apart]⟩
theorem nodup_lt : ∀ (n : Nat) (l : List Int), l.Nodup → (∀ x ∈ l, 0 ≤ x ∧ x < n) → l.length ≤ n
  | 0, l, _, h => by
    cases l with
    | nil => simp
    | cons x l => have := h x (by simp); omega
  | n + 1, l, hd, h => by
    have h1 := nodup_lt n (l.filter fun x => decide (x ≠ (n : Int))) (hd.filter _) (fun x hx => by
      have h2 := List.mem_filter.1 hx
      have h3 := h x h2.1
      have h4 : x ≠ (n : Int) := by simpa using h2.2
      omega)
    have h2 : l.length ≤ (l.filter fun x => decide (x ≠ (n : Int))).length + 1 := by
      clear h h1
      induction l with
      | nil => simp
      | cons x l ih =>
        obtain ⟨h1, h2⟩ := List.nodup_cons.1 hd
        by_cases hx : x = (n : Int)
        · have : l.filter (fun x => decide (x ≠ (n : Int))) = l := by
            rw [List.filter_eq_self]
            intro y hy
            simp
            rintro rfl
            exact h1 (hx ▸ hy)
          rw [List.filter_cons_of_neg (by simp [hx]), this]
          simp
        · rw [List.filter_cons_of_pos (by simpa using hx)]
          have := ih h2
          simp only [List.length_cons]
          omega
    omega
/-- Places that are apart are few. -/
theorem KV.few {f : Int → Option Int} {kv : List (Int × Int)} (h : KV f kv) {c : Nat} (hi : ∀ n m p, f n = some p → f m = some p → n = m) (hp : ∀ n p, f n = some p → 0 ≤ p ∧ p < c) : kv.length ≤ c := by
  have h1 := nodup_lt c (kv.map (·.2)) (by
    unfold List.Nodup
    rw [List.pairwise_map]
    refine h.apart.imp_of_mem fun {p q} hp hq hne e => hne ?_
    exact hi p.1 q.1 p.2 (h.mem hp) (by rw [e]; exact h.mem hq)) (fun x hx => by
    obtain ⟨p, hq, rfl⟩ := List.mem_map.1 hx
    exact hp p.1 p.2 (h.mem hq))
  simpa using h1
theorem keepV_some {f : Int → Option Int} {c n p : Int} (h : keepV f c n = some p) : f n = some p ∧ p < c := by
  unfold keepV at h
  cases hf : f n with
  | none => rw [hf] at h; cases h
  | some q =>
    rw [hf] at h
    simp [Option.filter] at h
    obtain ⟨h1, rfl⟩ := h
    exact ⟨rfl, h1⟩
set_option maxRecDepth 100000 in
set_option maxHeartbeats 1600000 in
theorem undoF_any (x p : Int) (mb : Nat) (cc tt : Int) (w : World) (h : Blk w mb 74 #[.int .i64 cc, .int .i64 tt]) :
    Calls Tryz.prog 41 #[.int .i64 x, .int .i64 p, .pointer (some ⟨mb, 0, none⟩)] w fun e w' => e = .returned (.bool (decide (p ≥ cc))) ∧ w = w' := by
  have x0 := h.cell 0
  clear h
  go_enter Tryz.func41, Tryz.ntmps41
  go_wp2_with fail
  go_ret
  exact ⟨rfl, rfl⟩
/-- The program's maps.DeleteFunc, as Undo has it. -/
theorem vdel_any {w : World} {b n : Nat} {f : Int → Option Int} (h : VM w b n f) {mb : Nat} {cc tt : Int} (hm : Blk w mb 74 #[.int .i64 cc, .int .i64 tt]) (hne : mb ≠ b) {c : Nat} (hc : cc = c) (hi : ∀ n m p, f n = some p → f m = some p → n = m) (hp : ∀ n p, f n = some p → 0 ≤ p) :
    Calls Tryz.prog 40 #[.map (some b), .func (.func 41) #[] #[.pointer (some ⟨mb, 0, none⟩)]] w fun e w' => e = .returned (.tuple #[]) ∧ VM w' b c (keepV f cc) ∧ Keeps w w' [b] := by
  obtain ⟨kv, hown, hkv⟩ := h.kv
  have eg : ∀ args w, (callFunc 41 args).run Tryz.prog w = .ok (.enter 41 args) w := enters_of Tryz.func41 (by kernel_rfl) rfl
  refine (AnyDf.maps_DeleteFunc Tryz.delInt law_int (plainElem Tryz.prog 3) (fun _ d => match d with | .lit (.int _ p) => decide (p ≥ cc) | _ => false) _ #[.pointer (some ⟨mb, 0, none⟩)] b n (.map (kv.map ent)) w eg hown ?_).mono ?_
  · intro W key val kl yd yp hg hkey hval
    obtain ⟨x, rfl, rfl, _⟩ := key_inv hkey
    obtain ⟨p, rfl, hpz, _⟩ := plainElem_int_inv Tryz.underlying3 hval
    have hyd : yd = .lit (.int .i64 p) := congrArg Prod.fst hpz
    subst hyd
    refine (undoF_any x p mb cc tt W (hm.grown hg (by simpa using hne))).mono ?_
    rintro e w' ⟨rfl, rfl⟩
    exact ⟨rfl, World.grownBy.refl _ _⟩
  · rintro e w' ⟨rfl, h1, hg⟩
    have hD : Lib.deleteFuncD (fun _ d => match d with | DataW.lit (.int _ p) => decide (p ≥ cc) | _ => false) (DataW.map (kv.map ent)) = .map ((kv.filter fun p => decide (p.2 < cc)).map ent) := by
      unfold Lib.deleteFuncD
      simp only [DataW.map.injEq]
      rw [List.filter_map]
      congr 1
      refine List.filter_congr fun p _ => ?_
      simp only [ent, Function.comp]
      by_cases hlt : p.2 < cc
      · rw [decide_eq_true hlt, decide_eq_false (by omega : ¬ p.2 ≥ cc)]
        rfl
      · rw [decide_eq_false hlt, decide_eq_true (by omega : p.2 ≥ cc)]
        rfl
    rw [hD] at h1
    have hk := hkv.keep cc
    have hfew := hk.few (c := c) (fun n m p h1 h2 => hi n m p (keepV_some h1).1 (keepV_some h2).1) (fun n p h => ⟨hp n p (keepV_some h).1, by have := (keepV_some h).2; omega⟩)
    obtain ⟨es, clock, hb, F, _, hD2⟩ := h1
    have hsz : es.size ≤ c := by
      injection hD2 with hD2
      have := congrArg List.length hD2
      rw [length_sorted] at this
      simp at this
      simpa [this] using hfew
    refine ⟨rfl, ⟨_, ⟨es, clock, hb, F, hsz, hD2⟩, fun x hx => ?_⟩, ⟨hg.os, hg.tape, hg.output, hg.size, fun k hk' hkb => hg.block k hk' (fun e => hkb (by injection e with e; subst e; simp))⟩⟩
    obtain ⟨k1, k2⟩ := find_has x (kv.filter fun p => decide (p.2 < cc))
    rw [k1, k2, ← hk.at_ x hx]
    refine ⟨?_, rfl⟩
    rw [hk.at_ x hx]
    cases (kv.filter fun p => decide (p.2 < cc)).find? fun p => decide (p.1 = x) <;> rfl
end Go.Proofs.YtnonfmaehfmigaaGreatDoor

/- The program's Mark, Drop, Trail. Printed by gen_hpundo.py. -/
namespace Go.Proofs.YtnonfmaehfmigaaGreatDoor
open Go.RowKit Go.Maps
set_option maxRecDepth 20000 in
set_option maxHeartbeats 400000 in
theorem cloneI_any (A : Option Addr) (n c : Nat) (vs : List Value) (w : World) (hl : vs.length = n * 1) (hn : n ≤ 1000000) (hA : Rd w A vs) (hc : A = none → c = 0) (h1 : ∀ u ∈ vs, u.oneCell' = true) :
    Calls Tryz.prog 42 #[.slice A n c] w (CloneD w 3 1 n vs) := by
  cases A with
  | none =>
    obtain rfl := hc rfl
    have h0 : vs = [] := by
      cases vs with
      | nil => rfl
      | cons x t =>
        obtain ⟨b, off, v, e, _⟩ := hA 0 (by simp)
        cases e
    subst h0
    obtain rfl : n = 0 := by simp at hl; omega
    clear hA hn hc h1 hl
    have hne := Lib.run_eql_slice_nil (P := Tryz.prog)
    go_enter Tryz.func42, Tryz.ntmps42
    go_wp2_with fail
    go_ret
    exact ⟨none, 0, rfl, World.ownsRow_nil _ _ _ _, Keeps.refl _ _⟩
  | some A =>
  have HL := Lib.hid hl
  have HA := Lib.hid hA
  have H1 := Lib.hid h1
  have hne := Lib.run_eql_slice_nil (P := Tryz.prog)
  clear hl hA h1 hc
  go_enter Tryz.func42, Tryz.ntmps42
  go_wp2_with (at_builtin; refine wpList_app _ el_int rfl (.tmp 5) (.tmp 6) rfl w.heap.size (some ⟨w.heap.size, 0, none⟩) 0 0 [] rfl (World.ownsRow_made _ #[] 0 (Nat.le_refl _) (Nat.zero_le _) rfl) (some A) n c vs rfl (HA.out.alloc _) HL.out (fun hh => by cases hh) H1.out (by omega) (by simp) ?_; intro A' c' w1 hown hgrow hat)
  go_ret
  refine ⟨A', c', by simp, by simpa using hown, ((Keeps.refl w []).alloc _).grown hgrow (fun k hk => .inr (by simp [Value.ownBlock] at hk; omega))⟩
theorem wrapI64 (m : Nat) (h : m ≤ 9223372036854775806) : IntKind.i64.wrap (m : Int) = (m : Int) := by
  simp only [IntKind.wrap_i64]
  omega
theorem wrapB (m : Nat) (h : m ≤ 9223372036854775806) : wrap64 (m : Int) = (m : Int) := by
  unfold wrap64
  omega
/-- The mark that is put. -/
def markOf (H : PH) (tr : List Int) : Int × Int := ((H.cells.length : Int), (tr.length : Int))
set_option maxRecDepth 100000 in
set_option maxHeartbeats 3200000 in
theorem hmark_any {w : World} {base hb : Nat} {L : List Nat} {H : PH} {tr : List Int} {mk : List (Int × Int)} {room : Nat} (hH : Hp w base hb L H tr mk room) (hmk : mk.length ≤ 1000000) : Calls Tryz.prog 9 #[.pointer (some ⟨hb, 0, none⟩)] w fun e w' => e = .returned (.tuple #[]) ∧ ∃ L', Hp w' base hb L' H tr (mk ++ [markOf H tr]) room ∧ HSt w L w' L' := by
  obtain ⟨ag, ah, vb, AA, FA, TA, MA, ca, nt, ct, nm, cm, cf, rfl, hm⟩ := hH
  have htl := hm.tlen
  subst htl
  have hml := hm.mlen
  subst hml
  have HM := Lib.hid hm
  have HMK := Lib.hid hmk
  have HW : Hid (∀ W, Keeps w W [] → (W.cell? ⟨hb, 0, none⟩ = some (.pointer (some ⟨ag, 0, none⟩)) ∧ W.cell? ⟨hb, 4, none⟩ = some (.slice TA tr.length ct) ∧ W.cell? ⟨hb, 5, none⟩ = some (.slice MA mk.length cm)) ∧ W.frozen? ⟨hb, 5, none⟩ = false) := fun W kk =>
    have b := hm.blk.keep kk (by simp)
    ⟨⟨b.cell 0, b.cell 4, b.cell 5⟩, b.frozen 5⟩
  have HT := Lib.hid (fun W (kk : Keeps w W []) => atop_any (hm.keep0 kk).ar)
  clear hm hmk
  go_enter Tryz.func9, Tryz.ntmps9
  go_upto_region 1 with fail
  refine wp_region_tx (fun W' => (W'.cell? ⟨hb, 0, none⟩ = some (.pointer (some ⟨ag, 0, none⟩)) ∧ W'.cell? ⟨hb, 4, none⟩ = some (.slice TA tr.length ct) ∧ W'.cell? ⟨hb, 5, none⟩ = some (.slice MA mk.length cm)) ∧ W'.frozen? ⟨hb, 5, none⟩ = false) [(0, true), (1, true), (2, true), (3, true), (4, true), (5, true), (6, true), (7, true), (8, true), (10, true), (11, true), (12, true), (13, true), (14, true), (9, false), (15, true), (16, false), (17, false), (18, true), (19, true), (20, false)] (by kernel_rfl) (by kernel_rfl) (HW.out _ (Keeps.refl _ _).drew) (fun hHeld => ?_)
  (repeat (first | (refine wpTx_take (v := ?_) rfl (by assumption) ?_ (by rfl) ?_; rotate_left; (focus (intro w' hSw; (try dsimp only at hSw); go_simp; (try with_reducible rfl); done)); simp only [Act.put, List.setIfInBounds_toArray, List.set_cons_zero, List.set_cons_succ]) | (refine wpTx_skip rfl (by assumption) (by rfl) ?_; simp only [Act.put, List.setIfInBounds_toArray, List.set_cons_zero, List.set_cons_succ])))
  refine wpTx_go rfl (fun K hK => ?_)
  go_simp
  refine (HT.out _ (Keeps.refl _ _).drew).mono ?_
  rintro e w2 ⟨rfl, rfl⟩
  refine hK.out _ _ ?_ ?_
  · exact HW.out _ (Keeps.refl _ _).drew
  (clear hHeld; intro hHeld; clear hK K; (try simp only [Act.put, List.setIfInBounds_toArray, List.set_cons_zero, List.set_cons_succ]))
  (repeat (first | (refine wpTx_take (v := ?_) rfl (by assumption) ?_ (by rfl) ?_; rotate_left; (focus (intro w' hSw; (try dsimp only at hSw); go_simp; (try with_reducible rfl); done)); simp only [Act.put, List.setIfInBounds_toArray, List.set_cons_zero, List.set_cons_succ]) | (refine wpTx_skip rfl (by assumption) (by rfl) ?_; simp only [Act.put, List.setIfInBounds_toArray, List.set_cons_zero, List.set_cons_succ])))
  refine wpTx_go rfl (fun K hK => ?_)
  go_simp
  refine hK.out _ _ ?_ ?_
  · exact HW.out _ ((Keeps.refl _ _).drew.alloc _)
  (clear hHeld; intro hHeld; clear hK K; (try simp only [Act.put, List.setIfInBounds_toArray, List.set_cons_zero, List.set_cons_succ]))
  refine wpTx_go rfl (fun K hK => ?_)
  refine step_app _ el_mark (by rfl) _ _ (by rfl) base MA mk.length cm (mk.flatMap mkE) (by rfl) (own_keep0 HM.out.marks ((Keeps.refl _ []).drew.alloc _)) (some ⟨w.heap.size, 0, none⟩) 1 1 (mkE (markOf H tr)) (by rfl) (Rd.one w.drew _ (mkE (markOf H tr))) rfl (by simp) (by simp [mkE, Value.oneCell']) (by have := HMK.out; omega) (by have := HM.out.low.1; have := HM.out.blk.lt; simp; omega) ?_
  intro A' c' w5 hown hgrow hat
  obtain ⟨o1, o2, o3⟩ := app_facts ((Keeps.refl w []).drew.alloc _) hown hgrow hat
  have HAp := Lib.hid (And.intro o1 (And.intro o2 o3))
  have hB5 : Blk w5 hb _ _ := HM.out.blk.grown2 ((Keeps.refl w []).drew.alloc _) hgrow (HM.out.apart.a2 hb (by simp)).2.2.2
  have HB5 : Hid ((w5.cell? ⟨hb, 0, none⟩ = some (.pointer (some ⟨ag, 0, none⟩)) ∧ w5.cell? ⟨hb, 4, none⟩ = some (.slice TA tr.length ct) ∧ w5.cell? ⟨hb, 5, none⟩ = some (.slice MA mk.length cm)) ∧ w5.frozen? ⟨hb, 5, none⟩ = false) := ⟨⟨hB5.cell 0, hB5.cell 4, hB5.cell 5⟩, hB5.frozen 5⟩
  clear hown hgrow hat o1 o2 o3 hB5
  refine hK.out _ _ ?_ ?_
  · exact HB5.out
  (clear hHeld; intro hHeld; clear hK K; (try simp only [Act.put, List.setIfInBounds_toArray, List.set_cons_zero, List.set_cons_succ]))
  (repeat (first | (refine wpTx_take (v := ?_) rfl (by assumption) ?_ (by rfl) ?_; rotate_left; (focus (intro w' hSw; (try dsimp only at hSw); go_simp; (try with_reducible rfl); done)); simp only [Act.put, List.setIfInBounds_toArray, List.set_cons_zero, List.set_cons_succ]) | (refine wpTx_skip rfl (by assumption) (by rfl) ?_; simp only [Act.put, List.setIfInBounds_toArray, List.set_cons_zero, List.set_cons_succ])))
  refine wpTx_last rfl (fun K hK => ?_)
  go_simp
  refine hK.out _ _ (NoPanic.normal ?_); clear hK K; (try simp only [Act.put, List.setIfInBounds_toArray, List.set_cons_zero, List.set_cons_succ])
  go_end0
  obtain ⟨o1, o2, o3⟩ := HAp.out
  have o1' : w5.ownsRow base 74 2 (.slice A' (mk.length + 1) c') (mk.length + 1) ((mk ++ [markOf H tr]).flatMap mkE) := by rw [List.flatMap_append]; exact o1
  exact ⟨rfl, _, ⟨_, _, _, _, _, _, _, _, _, _, _, _, _, rfl, HM.out.marks_ o2 o1' o3⟩, Hm.marks_st o2 o3⟩
theorem Hm.frozen_own {w : World} {base n c size : Nat} {e : TypeId} {A : Option Addr} {xs : List Value} (h : w.ownsRow base e size (.slice A n c) n xs) (hn : 0 < n) : ∃ g, A = some ⟨g, 0, none⟩ ∧ n ≤ c := own_atP h hn
set_option maxRecDepth 100000 in
set_option maxHeartbeats 3200000 in
theorem hdrop_no {w : World} {base hb : Nat} {L : List Nat} {H : PH} {tr : List Int} {mk : List (Int × Int)} {room : Nat} (hH : Hp w base hb L H tr mk room) (hmk : mk = []) : Calls Tryz.prog 20 #[.pointer (some ⟨hb, 0, none⟩)] w fun e w' => e = .returned (.bool false) ∧ w = w' := by
  subst hmk
  obtain ⟨ag, ah, vb, AA, FA, TA, MA, ca, nt, ct, nm, cm, cf, rfl, hm⟩ := hH
  have hml := hm.mlen
  simp only [List.length_nil] at hml
  subst hml
  have x5 := hm.blk.cell 5
  clear hm
  go_enter Tryz.func20, Tryz.ntmps20
  go_wp2_with fail
  go_ret
  exact ⟨rfl, rfl⟩
set_option maxRecDepth 100000 in
set_option maxHeartbeats 3200000 in
theorem hdrop_yes {w : World} {base hb : Nat} {L : List Nat} {H : PH} {tr : List Int} {mk0 : List (Int × Int)} {room : Nat} {x : Int × Int} (hH : Hp w base hb L H tr (mk0 ++ [x]) room) : Calls Tryz.prog 20 #[.pointer (some ⟨hb, 0, none⟩)] w fun e w' => e = .returned (.bool true) ∧ ∃ L', Hp w' base hb L' H tr mk0 room ∧ HSt w L w' L' := by
  obtain ⟨ag, ah, vb, AA, FA, TA, MA, ca, nt, ct, nm, cm, cf, rfl, hm⟩ := hH
  have hml := hm.mlen
  obtain ⟨m, hmm⟩ : ∃ m, mk0.length = m := ⟨_, rfl⟩
  rw [List.length_append, List.length_singleton, hmm] at hml
  subst hml
  have ho := hm.marks
  obtain ⟨g, hMA, hcap⟩ := own_atP ho (by omega)
  subst hMA
  have hfew : m + 1 ≤ 9223372036854775807 := by
    rcases ho.2 with ⟨_, h⟩ | ⟨g, cap, cur, h1, h2, h3, h4, h5, _⟩
    · omega
    · unfold maxLen at h5
      omega
  have hsh : w.ownsRow base 74 2 (.slice (some ⟨g, 0, none⟩) m cm) m (mk0.flatMap mkE) := by
    rw [List.flatMap_append] at ho
    exact own_shortP ho (by rw [length_flat mkE_len, hmm]) (by omega) (by simp)
  have HM := Lib.hid hm
  have HSh := Lib.hid hsh
  have x5 := hm.blk.cell 5
  have f5 := hm.blk.frozen 5
  have b0 : (0 : Int) ≤ (m : Int) := Int.natCast_nonneg _
  have b2 : wrap64 (m : Int) = (m : Int) := wrapB m (by omega)
  have b5 : IntKind.i64.wrap (m : Int) = (m : Int) := wrapI64 m (by omega)
  have b3 : (m : Int) ≤ (cm : Int) := by omega
  have b4 : (m : Int) < (m : Int) + 1 := by omega
  have hne : ((m : Int) + 1 == 0) = false := by simp; omega
  have HW : Hid (w.drew.cell? ⟨hb, 5, none⟩ = some (.slice (some ⟨g, 0, none⟩) (m + 1) cm)) := x5
  clear hm ho hsh hmm hcap hfew
  go_enter Tryz.func20, Tryz.ntmps20
  go_upto_region 3 with fail
  refine wp_region_tx (fun W' => W'.cell? ⟨hb, 5, none⟩ = some (.slice (some ⟨g, 0, none⟩) (m + 1) cm)) [(0, true), (1, true), (2, true), (3, true), (4, true), (5, true), (6, true), (7, true), (8, true), (9, true), (10, true), (11, true), (12, true), (13, true), (14, false)] (by kernel_rfl) (by kernel_rfl) (by exact HW.out) (fun hHeld => ?_)
  (first | (refine wpTx_take (v := ?_) rfl (by assumption) ?_ (by rfl) ?_; rotate_left; (focus (intro w' hSw; (try dsimp only at hSw); go_simp; (try with_reducible rfl); done)); simp only [Act.put, List.setIfInBounds_toArray, List.set_cons_zero, List.set_cons_succ]) | (refine wpTx_skip rfl (by assumption) (by rfl) ?_; simp only [Act.put, List.setIfInBounds_toArray, List.set_cons_zero, List.set_cons_succ]))
  (first | (refine wpTx_take (v := ?_) rfl (by assumption) ?_ (by rfl) ?_; rotate_left; (focus (intro w' hSw; (try dsimp only at hSw); go_simp; (try with_reducible rfl); done)); simp only [Act.put, List.setIfInBounds_toArray, List.set_cons_zero, List.set_cons_succ]) | (refine wpTx_skip rfl (by assumption) (by rfl) ?_; simp only [Act.put, List.setIfInBounds_toArray, List.set_cons_zero, List.set_cons_succ]))
  (first | (refine wpTx_take (v := ?_) rfl (by assumption) ?_ (by rfl) ?_; rotate_left; (focus (intro w' hSw; (try dsimp only at hSw); go_simp; (try with_reducible rfl); done)); simp only [Act.put, List.setIfInBounds_toArray, List.set_cons_zero, List.set_cons_succ]) | (refine wpTx_skip rfl (by assumption) (by rfl) ?_; simp only [Act.put, List.setIfInBounds_toArray, List.set_cons_zero, List.set_cons_succ]))
  (first | (refine wpTx_take (v := ?_) rfl (by assumption) ?_ (by rfl) ?_; rotate_left; (focus (intro w' hSw; (try dsimp only at hSw); go_simp; (try with_reducible rfl); done)); simp only [Act.put, List.setIfInBounds_toArray, List.set_cons_zero, List.set_cons_succ]) | (refine wpTx_skip rfl (by assumption) (by rfl) ?_; simp only [Act.put, List.setIfInBounds_toArray, List.set_cons_zero, List.set_cons_succ]))
  (first | (refine wpTx_take (v := ?_) rfl (by assumption) ?_ (by rfl) ?_; rotate_left; (focus (intro w' hSw; (try dsimp only at hSw); go_simp; (try with_reducible rfl); done)); simp only [Act.put, List.setIfInBounds_toArray, List.set_cons_zero, List.set_cons_succ]) | (refine wpTx_skip rfl (by assumption) (by rfl) ?_; simp only [Act.put, List.setIfInBounds_toArray, List.set_cons_zero, List.set_cons_succ]))
  (first | (refine wpTx_take (v := ?_) rfl (by assumption) ?_ (by rfl) ?_; rotate_left; (focus (intro w' hSw; (try dsimp only at hSw); go_simp; (try with_reducible rfl); done)); simp only [Act.put, List.setIfInBounds_toArray, List.set_cons_zero, List.set_cons_succ]) | (refine wpTx_skip rfl (by assumption) (by rfl) ?_; simp only [Act.put, List.setIfInBounds_toArray, List.set_cons_zero, List.set_cons_succ]))
  (first | (refine wpTx_take (v := ?_) rfl (by assumption) ?_ (by rfl) ?_; rotate_left; (focus (intro w' hSw; (try dsimp only at hSw); go_simp; (try with_reducible rfl); done)); simp only [Act.put, List.setIfInBounds_toArray, List.set_cons_zero, List.set_cons_succ]) | (refine wpTx_skip rfl (by assumption) (by rfl) ?_; simp only [Act.put, List.setIfInBounds_toArray, List.set_cons_zero, List.set_cons_succ]))
  (first | (refine wpTx_take (v := ?_) rfl (by assumption) ?_ (by rfl) ?_; rotate_left; (focus (intro w' hSw; (try dsimp only at hSw); go_simp; (try with_reducible rfl); done)); simp only [Act.put, List.setIfInBounds_toArray, List.set_cons_zero, List.set_cons_succ]) | (refine wpTx_skip rfl (by assumption) (by rfl) ?_; simp only [Act.put, List.setIfInBounds_toArray, List.set_cons_zero, List.set_cons_succ]))
  (first | (refine wpTx_take (v := ?_) rfl (by assumption) ?_ (by rfl) ?_; rotate_left; (focus (intro w' hSw; (try dsimp only at hSw); go_simp; (try with_reducible rfl); done)); simp only [Act.put, List.setIfInBounds_toArray, List.set_cons_zero, List.set_cons_succ]) | (refine wpTx_skip rfl (by assumption) (by rfl) ?_; simp only [Act.put, List.setIfInBounds_toArray, List.set_cons_zero, List.set_cons_succ]))
  (first | (refine wpTx_take (v := ?_) rfl (by assumption) ?_ (by rfl) ?_; rotate_left; (focus (intro w' hSw; (try dsimp only at hSw); go_simp; (try with_reducible rfl); done)); simp only [Act.put, List.setIfInBounds_toArray, List.set_cons_zero, List.set_cons_succ]) | (refine wpTx_skip rfl (by assumption) (by rfl) ?_; simp only [Act.put, List.setIfInBounds_toArray, List.set_cons_zero, List.set_cons_succ]))
  (first | (refine wpTx_take (v := ?_) rfl (by assumption) ?_ (by rfl) ?_; rotate_left; (focus (intro w' hSw; (try dsimp only at hSw); go_simp; (try with_reducible rfl); done)); simp only [Act.put, List.setIfInBounds_toArray, List.set_cons_zero, List.set_cons_succ]) | (refine wpTx_skip rfl (by assumption) (by rfl) ?_; simp only [Act.put, List.setIfInBounds_toArray, List.set_cons_zero, List.set_cons_succ]))
  (first | (refine wpTx_take (v := ?_) rfl (by assumption) ?_ (by rfl) ?_; rotate_left; (focus (intro w' hSw; (try dsimp only at hSw); go_simp; (try with_reducible rfl); done)); simp only [Act.put, List.setIfInBounds_toArray, List.set_cons_zero, List.set_cons_succ]) | (refine wpTx_skip rfl (by assumption) (by rfl) ?_; simp only [Act.put, List.setIfInBounds_toArray, List.set_cons_zero, List.set_cons_succ]))
  (first | (refine wpTx_take (v := ?_) rfl (by assumption) ?_ (by rfl) ?_; rotate_left; (focus (intro w' hSw; (try dsimp only at hSw); go_simp; (try with_reducible rfl); done)); simp only [Act.put, List.setIfInBounds_toArray, List.set_cons_zero, List.set_cons_succ]) | (refine wpTx_skip rfl (by assumption) (by rfl) ?_; simp only [Act.put, List.setIfInBounds_toArray, List.set_cons_zero, List.set_cons_succ]))
  (first | (refine wpTx_take (v := ?_) rfl (by assumption) ?_ (by rfl) ?_; rotate_left; (focus (intro w' hSw; (try dsimp only at hSw); go_simp; (try with_reducible rfl); done)); simp only [Act.put, List.setIfInBounds_toArray, List.set_cons_zero, List.set_cons_succ]) | (refine wpTx_skip rfl (by assumption) (by rfl) ?_; simp only [Act.put, List.setIfInBounds_toArray, List.set_cons_zero, List.set_cons_succ]))
  refine wpTx_last rfl (fun K hK => ?_)
  go_simp
  refine hK.out _ _ (NoPanic.normal ?_); clear hK K; (try simp only [Act.put, List.setIfInBounds_toArray, List.set_cons_zero, List.set_cons_succ])
  clear hHeld x5 f5
  go_wp2_with fail
  go_ret
  have ks : Keeps w w.drew (ownL (.slice (some ⟨g, 0, none⟩) 0 0)) := (Keeps.refl _ _).drew
  exact ⟨rfl, _, ⟨_, _, _, _, _, _, _, _, _, _, _, _, _, rfl, HM.out.marks_ ks (own_keep0 HSh.out (Keeps.refl _ []).drew) (fun b hb' => .inl hb')⟩, Hm.marks_st ks (fun b hb' => .inl hb')⟩
set_option maxRecDepth 100000 in
set_option maxHeartbeats 3200000 in
theorem htrail_any {w : World} {base hb : Nat} {L : List Nat} {H : PH} {tr : List Int} {mk : List (Int × Int)} {room : Nat} (hH : Hp w base hb L H tr mk room) (hnt : tr.length ≤ 1000000) : Calls Tryz.prog 18 #[.pointer (some ⟨hb, 0, none⟩)] w fun e w' => ∃ A c, e = .returned (.slice A tr.length c) ∧ Keeps w w' [] := by
  obtain ⟨ag, ah, vb, AA, FA, TA, MA, ca, nt, ct, nm, cm, cf, rfl, hm⟩ := hH
  have htl := hm.tlen
  subst htl
  have HC := Lib.hid (cloneI_any TA tr.length ct (tr.map (Value.int .i64)) w (by simp) hnt (Rd.of_own hm.trail) (fun e => by subst e; exact own_zeroN hm.trail) (by intro u hu; obtain ⟨x, _, rfl⟩ := List.mem_map.1 hu; rfl))
  have x4 := hm.blk.cell 4
  clear hm hnt
  go_enter Tryz.func18, Tryz.ntmps18
  go_wp2_with fail
  refine HC.out.mono ?_
  rintro e w1 ⟨A', c', rfl, _, k1⟩
  have HK := Lib.hid k1
  clear x4 k1 HC
  go_wp2_with fail
  go_ret
  exact ⟨A', c', rfl, HK.out⟩
end Go.Proofs.YtnonfmaehfmigaaGreatDoor
