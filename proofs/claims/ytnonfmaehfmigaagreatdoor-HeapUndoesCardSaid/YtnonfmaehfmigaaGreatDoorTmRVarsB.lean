import Derived.Test.YtnonfmaehfmigaaGreatDoorText
import Derived.Test.YtnonfmaehfmigaaGreatDoorTmVars
/- A region that draws its order, walked along a tree: as XText, but where two operations are ready and both write, each is shown to come first. Over any program. -/
namespace Go.Proofs.YtnonfmaehfmigaaGreatDoor
open Go

/-- take: number k is taken first; go: it comes up alone; or: one of two comes up. -/
inductive Sch where
  | done
  | take (k : Nat) (r : Sch)
  | go (k : Nat) (r : Sch)
  | or (k : Nat) (r : Sch) (j : Nat) (s : Sch)

def Sch.isDone : Sch → Bool
  | .done => true
  | _ => false
def Sch.size : Sch → Nat
  | .done => 0
  | .take _ r => r.size + 1
  | .go _ r => r.size + 1
  | .or _ r _ _ => r.size + 1

section
variable {P : Program} {ops : Array Oper} {Q : Exit → Act → World → Prop} {md : Region.Mode} {S : World → Prop}

def wpTz (P : Program) (l : List Oper) (Q : Exit → Act → World → Prop) (S : World → Prop) : Sch → Act → World → Prop
  | .done, a, w => Q .normal a w
  | .take k r, a, w => ∃ o v, nthO l k = some o ∧ YieldsIf P l.toArray S o v a ∧ S w ∧ wpTz P l Q S r (a.put o.dst v) w
  | .go k r, a, w => wpOp P l.toArray Q k (fun a' w' => (r.isDone = false → S w') ∧ wpTz P l Q S r a' w') a w
  | .or k r j s, a, w => wpOp P l.toArray Q k (fun a' w' => S w' ∧ wpTz P l Q S r a' w') a w ∧ wpOp P l.toArray Q j (fun a' w' => S w' ∧ wpTz P l Q S s a' w') a w

def tzB (md : Region.Mode) (ops : Array Oper) (n : Nat) : Sch → Array Bool → Bool
  | .done, listed => (Region.ready md ops listed).isEmpty
  | .take k r, listed => decide (k < n) && (Region.ready md ops listed).contains k && Region.free md ops listed k && tzB md ops n r (listed.setIfInBounds k true)
  | .go k r, listed => decide (Region.ready md ops listed = [k]) && (if k < n then !r.isDone else (k == n && r.isDone)) && tzB md ops n r (listed.setIfInBounds k true)
  | .or k r j s, listed => decide (Region.ready md ops listed = [k, j]) && decide (k < n) && decide (j < n) && decide (r.size = s.size) && tzB md ops n r (listed.setIfInBounds k true) && tzB md ops n s (listed.setIfInBounds j true)
def tzAllB (md : Region.Mode) (l : List Oper) (sched : Sch) : Bool :=
  Region.noSelect l.toArray && decide (0 < l.length) && Region.sinkB md l.toArray (l.length - 1) && Region.chainB md l.toArray (l.length - 1) && decide (sched.size = l.length) && tzB md l.toArray (l.length - 1) sched (Array.replicate l.length false)

theorem wpAnyE_of_tz {l : List Oper} {n : Nat} (hsel : Region.noSelect l.toArray = true) (hQ : ∀ c a d v w, Q (.panic c) (Act.put a d v) w → Q (.panic c) a w) (hs : Region.sinkB md l.toArray n = true) (hc : Region.chainB md l.toArray n = true) (hn : l.toArray.size = n + 1) :
    ∀ (r : Sch) (listed : Array Bool) (a : Act) (w : World), HeadInv md l.toArray n listed ∨ r.isDone = true → tzB md l.toArray n r listed = true → wpTz P l Q S r a w → wpAnyE P md l.toArray Q S n r.size listed a w
  | .done, listed, a, w, _, hB, h => ⟨by simpa [tzB] using hB, h⟩
  | .take k r, listed, a, w, hinv, hB, h => by
    have inv : HeadInv md l.toArray n listed := by rcases hinv with h | h; exact h; cases h
    simp only [tzB, Bool.and_eq_true, decide_eq_true_eq] at hB
    obtain ⟨⟨⟨hk, hr⟩, hf⟩, hB'⟩ := hB
    obtain ⟨o, v, ho, hy, hS, h'⟩ := h
    have h0 : l.toArray[k]? = some o := (nthO_eq l k).trans ho
    have hr' : k ∈ Region.ready md l.toArray listed := by simpa using hr
    exact wpAnyE_first h0 (Region.noSelect_spec hsel) (fun c a w => hQ c a _ _ w) hs hc (by omega) hk r.size listed a w inv (Region.free_spec h0 hf) hr' hy hS
      (wpAnyE_of_tz hsel hQ hs hc hn r _ _ _ (.inl (inv.set hr' hk)) hB' h')
  | .go k r, listed, a, w, hinv, hB, h => by
    have inv : HeadInv md l.toArray n listed := by rcases hinv with h | h; exact h; cases h
    simp only [tzB, Bool.and_eq_true, decide_eq_true_eq] at hB
    obtain ⟨⟨hr, hlast⟩, hB'⟩ := hB
    refine ⟨fun h1 => (by rw [hr] at h1; cases h1), fun i hi => ?_⟩
    have hik : i = k := by rw [hr] at hi; simpa using hi
    subst hik
    have h1 : i ≠ n → r.isDone = false := fun hne => by
      split at hlast
      · simpa using hlast
      · simp at hlast; exact absurd hlast.1 hne
    have h2 : HeadInv md l.toArray n (listed.setIfInBounds i true) ∨ r.isDone = true := by
      split at hlast
      · rename_i hkn; exact .inl (inv.set hi hkn)
      · simp at hlast; exact .inr hlast.2
    exact wpOp_mono (fun a' w' h' => ⟨fun hne => h'.1 (h1 hne), wpAnyE_of_tz hsel hQ hs hc hn r _ a' w' h2 hB' h'.2⟩) h
  | .or k r j s, listed, a, w, hinv, hB, h => by
    have inv : HeadInv md l.toArray n listed := by rcases hinv with h | h; exact h; cases h
    simp only [tzB, Bool.and_eq_true, decide_eq_true_eq] at hB
    obtain ⟨⟨⟨⟨⟨hr, hkn⟩, hjn⟩, hsz⟩, hB1⟩, hB2⟩ := hB
    refine ⟨fun h1 => (by rw [hr] at h1; cases h1), fun i hi => ?_⟩
    have hik : i = k ∨ i = j := by rw [hr] at hi; simpa using hi
    rcases hik with rfl | rfl
    · exact wpOp_mono (fun a' w' h' => ⟨fun _ => h'.1, wpAnyE_of_tz hsel hQ hs hc hn r _ a' w' (.inl (inv.set hi hkn)) hB1 h'.2⟩) h.1
    · refine wpOp_mono (fun a' w' h' => ⟨fun _ => h'.1, ?_⟩) h.2
      rw [hsz]
      exact wpAnyE_of_tz hsel hQ hs hc hn s _ a' w' (.inl (inv.set hi hjn)) hB2 h'.2

theorem wp_region_tz {id : Nat} {l : List Oper} {a : Act} {w : World} (S : World → Prop) (sched : Sch) (hm : P.follows .mixedOrders = true) (hB : tzAllB .any l sched = true)
    (hS : S w.drew) (h : S w.drew → wpTz P l (NoPanic Q) S sched a w.drew) : (Code.region id l.toArray true).wp P Q a w := by
  refine wp_region_noPanic ?_
  have hQ : ∀ c a d v w, NoPanic Q (.panic c) (Act.put a d v) w → NoPanic Q (.panic c) a w := fun _ _ _ _ _ h => h
  simp only [tzAllB, Bool.and_eq_true, decide_eq_true_eq] at hB
  obtain ⟨⟨⟨⟨⟨hsel, hl⟩, hs⟩, hc⟩, hlen⟩, hB⟩ := hB
  have hn : l.toArray.size = (l.length - 1) + 1 := by simp; omega
  have inv0 : HeadInv .any l.toArray (l.length - 1) (Array.replicate l.length false) :=
    ⟨by simp, fun j oj _ hl => (by rw [getD_replicate_false] at hl; cases hl), fun t _ ht => getD_in (by simpa using ht) (getD_replicate_false _ _)⟩
  have H := wpAnyE_of_tz hsel hQ hs hc hn sched _ a w.drew (.inl inv0) hB (h hS)
  rw [hlen] at H
  refine wp_region_any hm (wpAny_of_E (S := S) (n := l.length - 1) _ _ _ _ ?_)
  rw [show l.toArray.size = l.length by simp]
  exact H

theorem wpTz_take {l : List Oper} {k : Nat} {r : Sch} {o : Oper} {v : Value} {a : Act} {w : World} (ho : nthO l k = some o) (hS : S w)
    (hy : ∀ w, S w → (execOp a.eval o).run P w = .ok (.value v) w) (hw : Region.wanted o (yielded l.toArray a.tmps) = true) (h : wpTz P l Q S r (a.put o.dst v) w) : wpTz P l Q S (.take k r) a w :=
  ⟨o, v, ho, .inl ⟨hw, hy⟩, hS, h⟩
theorem wpTz_skip {l : List Oper} {k : Nat} {r : Sch} {o : Oper} {a : Act} {w : World} (ho : nthO l k = some o) (hS : S w)
    (hw : Region.wanted o (yielded l.toArray a.tmps) = false) (h : wpTz P l Q S r (a.put o.dst undef) w) : wpTz P l Q S (.take k r) a w :=
  ⟨o, undef, ho, .inr ⟨hw, rfl⟩, hS, h⟩
theorem wpTz_go {l : List Oper} {k : Nat} {r : Sch} {o : Oper} {a : Act} {w : World} (ho : nthO l k = some o)
    (h : ∀ K : Act → World → Prop, Shut (∀ a w, S w → (S w → wpTz P l Q S r a w) → K a w) → if Region.wanted o (yielded l.toArray a.tmps) = true then Oper.wp P o a w K Q else K (a.put o.dst undef) w) : wpTz P l Q S (.go k r) a w :=
  wpOp_step ((nthO_eq l k).trans ho) (fun K hK => h K (fun a w hS hW => hK a w ⟨fun _ => hS, hW hS⟩))
theorem wpTz_or {l : List Oper} {k j : Nat} {r s : Sch} {o p : Oper} {a : Act} {w : World} (ho : nthO l k = some o) (hp : nthO l j = some p)
    (h : ∀ K : Act → World → Prop, Shut (∀ a w, S w → (S w → wpTz P l Q S r a w) → K a w) → if Region.wanted o (yielded l.toArray a.tmps) = true then Oper.wp P o a w K Q else K (a.put o.dst undef) w)
    (h2 : ∀ K : Act → World → Prop, Shut (∀ a w, S w → (S w → wpTz P l Q S s a w) → K a w) → if Region.wanted p (yielded l.toArray a.tmps) = true then Oper.wp P p a w K Q else K (a.put p.dst undef) w) : wpTz P l Q S (.or k r j s) a w :=
  ⟨wpOp_step ((nthO_eq l k).trans ho) (fun K hK => h K (fun a w hS hW => hK a w ⟨hS, hW hS⟩)), wpOp_step ((nthO_eq l j).trans hp) (fun K hK => h2 K (fun a w hS hW => hK a w ⟨hS, hW hS⟩))⟩
theorem wpTz_last {l : List Oper} {k : Nat} {o : Oper} {a : Act} {w : World} (ho : nthO l k = some o)
    (h : ∀ K : Act → World → Prop, Shut (∀ a w, Q .normal a w → K a w) → if Region.wanted o (yielded l.toArray a.tmps) = true then Oper.wp P o a w K Q else K (a.put o.dst undef) w) : wpTz P l Q S (.go k .done) a w :=
  wpOp_step ((nthO_eq l k).trans ho) (fun K hK => h K (fun a w hq => hK a w ⟨fun h => absurd h (by simp [Sch.isDone]), hq⟩))
end
end Go.Proofs.YtnonfmaehfmigaaGreatDoor

/- Terms: the document's Vars. -/
namespace Go.Proofs.YtnonfmaehfmigaaGreatDoor
open Go.RowKit

set_option maxHeartbeats 400000 in
theorem refHas_any (x : Int) (A : Option Addr) (n c : Nat) (l : List Int) (w : World) (hl : l.length = n) (hn : n ≤ 9223372036854775807) (hA : Nums .i64 w w.heap.size A l) :
    Calls Tryz.prog 93 #[.slice A n c, .int .i64 x] w fun e w' => e = .returned (.bool (l.any (hasI x))) ∧ w = w' := by
  have HL := Lib.hid hl
  have HA := Lib.hid hA
  clear hl hA
  go_enter Tryz.func93, Tryz.ntmps93
  go_wp2_with fail
  go_loop [5] (fun i => ∃ k : Nat, k ≤ n ∧ i = .int .i64 k ∧ Hid (∀ y ∈ l.take k, hasI x y = false)) (fun i => n - (intOf i).toNat)
  case atStart => exact ⟨0, Nat.zero_le _, rfl, fun y hy => by simp at hy⟩
  case round =>
    obtain ⟨k, hk, rfl, HB⟩ := hrel
    by_cases hlt : k < n
    · obtain ⟨b, off, y, rfl, _, hc, hx⟩ := HA.out k (by rw [HL.out]; exact hlt)
      have HX := Lib.hid hx
      clear hx
      have b0 : (0 : Int) ≤ (k : Int) := Int.natCast_nonneg _
      have b1 : (k : Int) < (n : Int) := by omega
      cases hp : (y == x) with
      | true =>
        have hp2 : hasI x y = true := by
          unfold hasI
          rw [beq_iff_eq] at hp ⊢
          exact hp.symm
        have HI : Hid (l.any (hasI x) = true) := List.any_eq_true.2 ⟨y, List.mem_of_getElem? HX.out, hp2⟩
        clear hp2
        go_wp2_with fail
        go_ret
        exact ⟨by rw [HI.out]; rfl, rfl⟩
      | false =>
        have hp2 : hasI x y = false := by
          unfold hasI
          cases h9 : (x == y) with
          | false => rfl
          | true => rw [beq_iff_eq] at h9; subst h9; simp at hp
        have HB2 : Hid (∀ y ∈ l.take (k + 1), hasI x y = false) := take_snoc_all HX.out hp2 HB.out
        clear hp2
        go_wp2_with fail
        go_round
        case rel => exact ⟨k + 1, by omega, by go_num, HB2⟩
        case measure => simp [intOf]; omega
    · obtain rfl : n = k := by omega
      have HI : Hid (l.any (hasI x) = false) := by
        have h9 := HB.out
        rw [List.take_of_length_le (by rw [HL.out]; omega)] at h9
        exact List.any_eq_false.2 fun y hy => by rw [h9 y hy]; simp
      go_wp2_with fail
      go_ret
      exact ⟨by rw [HI.out]; rfl, rfl⟩

/-- What vars tells. -/
def IntsDone (w : World) (l : List Int) (e : Ending) (w' : World) : Prop := ∃ A c, e = .returned (.slice A l.length c) ∧ Nums .i64 w' w'.heap.size A l ∧ (A = none → c = 0) ∧ Keeps w w' []
set_option maxRecDepth 100000 in
set_option maxHeartbeats 1600000 in
theorem refVars1_any (t : Tm) : ∀ (v : TV) (w : World) (A : Option Addr) (c n : Nat) (acc : List Int), Tr w (fun _ => True) t v → tRight t = true → Nums .i64 w w.heap.size A acc → (A = none → c = 0) → acc.length = n → (tWalk acc t).length ≤ 1000000 → Calls Tryz.prog 88 #[tvV v, .slice A n c] w (IntsDone w (tWalk acc t)) := by
  induction t using Tm.ind_ with
  | h k n s l ih =>
    intro v w A c na acc ht hrt hN hA hna hsz
    cases ht with
    | mk _ _ _ _ A0 c0 vs hl hR hS hc hz hk =>
    rw [tRight, Bool.and_eq_true] at hrt
    obtain ⟨hall, hrt⟩ := hrt
    have HRt : Hid (∀ a ∈ l, tRight a = true) := (tRights_all l).1 hall
    have HT : Hid (Trs w (fun _ => True) l vs) := ⟨hl, hk⟩
    have HR := Lib.hid hR
    have HI := Lib.hid ih
    have HNa := Lib.hid hN
    have HAz := Lib.hid hA
    have HNn := Lib.hid hna
    obtain ⟨m, hm⟩ : ∃ m, l.length = m := ⟨_, rfl⟩
    have HM := Lib.hid hm
    have hmb : m ≤ 9223372036854775807 := by omega
    have HZ : Hid ((tWalk acc (.mk k n s l)).length ≤ 1000000) := hsz
    have hnb : na ≤ 1000000 := by have := tWalk_ge acc (.mk k n s l); omega
    unfold tvV
    rw [hm] at hrt
    simp only [hm]
    have HB0 : Hid (Blk (w.alloc (.cells #[.int .i64 k, .int .i64 n, .string s, .slice A0 m c0] 24)) w.heap.size 24 #[.int .i64 k, .int .i64 n, .string s, .slice A0 m c0]) := Blk.new _ _ _
    have HK0 : Hid (Keeps w (w.alloc (.cells #[.int .i64 k, .int .i64 n, .string s, .slice A0 m c0] 24)) []) := (Keeps.refl w []).alloc _
    by_cases h0 : k = 0
    · subst h0
      rw [if_pos rfl] at hrt
      simp only [Bool.and_eq_true, decide_eq_true_eq] at hrt
      obtain rfl : l = [] := List.length_eq_zero_iff.1 (by rw [hm]; exact hrt.2)
      have HW : Hid (tWalk acc (.mk 0 n s []) = addV acc n) := by show _ = _; rw [tWalk, if_pos rfl, tWalks]
      have HH := Lib.hid (refHas_any n A na c acc _ hna (by omega) ((hN.keep (fun p hp => HK0.out.cell hp (by simp))).more HK0.out.size))
      clear hl hR hS hc hz hk ih hall hm hN hA hna hsz hrt
      go_enter Tryz.func88, Tryz.ntmps88
      cases hh : acc.any (hasI n) with
      | true =>
        rw [hh] at HH
        have HA2 : Hid (addV acc n = acc) := by show _ = _; rw [addV, if_pos hh]
        clear hh
        go_wp2_with fail
        refine HH.out.mono ?_
        rintro e w1 ⟨rfl, rfl⟩
        go_wp2_with fail
        go_ret
        exact ⟨A, c, by rw [HW.out, HA2.out, HNn.out]; rfl, by rw [HW.out, HA2.out]; exact (HNa.out.keep (fun p hp => HK0.out.cell hp (by simp))).more HK0.out.size, HAz.out, HK0.out⟩
      | false =>
        rw [hh] at HH
        have HF : Hid (∀ A' c' w', w'.ownsRow (w.alloc (.cells #[.int .i64 0, .int .i64 n, .string s, .slice A0 m c0] 24)).heap.size 3 1 (.slice A' (na + 1) c') (na + 1) (acc.map (Value.int .i64) ++ [.int .i64 n]) → Keeps (w.alloc (.cells #[.int .i64 0, .int .i64 n, .string s, .slice A0 m c0] 24)) w' [] → IntsDone w (tWalk acc (.mk 0 n s [])) (.returned (.slice A' (na + 1) c')) w') := fun A' c' w' ho k => by
          have hl : (tWalk acc (.mk 0 n s [])) = acc ++ [n] := by rw [HW.out, addV, if_neg (by rw [hh]; simp)]
          rw [hl]
          have ho' : w'.ownsRow (w.alloc (.cells #[.int .i64 0, .int .i64 n, .string s, .slice A0 m c0] 24)).heap.size 3 1 (.slice A' (na + 1) c') (na + 1) ((acc ++ [n]).map (Value.int .i64)) := by rw [List.map_append]; exact ho
          obtain ⟨A3, c3, hv, hz, hN⟩ := Nums.of_own ho'
          injection hv with h1 h2 h3
          subst h1
          subst h3
          exact ⟨A', c', by rw [List.length_append, HNn.out]; rfl, hN, fun e => by subst e; exact own_zeroN ho', HK0.out.trans k⟩
        have HG : Hid (Nums .i64 (w.alloc (.cells #[.int .i64 0, .int .i64 n, .string s, .slice A0 m c0] 24)) (w.alloc (.cells #[.int .i64 0, .int .i64 n, .string s, .slice A0 m c0] 24)).heap.size A acc) := (HNa.out.keep (fun p hp => HK0.out.cell hp (by simp))).more HK0.out.size
        have HS : Hid (∀ W', Keeps (w.alloc (.cells #[.int .i64 0, .int .i64 n, .string s, .slice A0 m c0] 24)) W' [] → W'.cell? ⟨w.heap.size, 1, none⟩ = some (.int .i64 n)) := fun W' k => (HB0.out.keep k (by simp)).cell 1
        clear hh HK0
        go_wp2_with fail
        refine HH.out.mono ?_
        rintro e w1 ⟨rfl, rfl⟩
        go_wp2_with fail
        clear HH HB0 HW
        generalize hw0 : w.alloc (.cells #[.int .i64 0, .int .i64 n, .string s, .slice A0 m c0] 24) = w0 at HF HG HS ⊢
        clear hw0
        refine wp_region_tz (fun W' => W'.cell? ⟨w.heap.size, 1, none⟩ = some (.int .i64 n)) (.take 1 (.take 3 (.take 4 (.or 0 (.or 2 (.go 5 (.go 6 (.go 7 .done))) 5 (.go 2 (.go 6 (.go 7 .done)))) 5 (.go 0 (.go 2 (.go 6 (.go 7 .done)))))))) (by kernel_rfl) (by kernel_rfl) (by exact HS.out _ (Keeps.refl _ []).drew) (fun hHeld => ?_)
        (repeat (first | (refine wpTz_take (v := ?_) rfl (by assumption) ?_ (by rfl) ?_; rotate_left; (focus (intro w' hSw; (try dsimp only at hSw); go_simp; (try with_reducible rfl); done)); simp only [Act.put, List.setIfInBounds_toArray, List.set_cons_zero, List.set_cons_succ]) | (refine wpTz_skip rfl (by assumption) (by rfl) ?_; simp only [Act.put, List.setIfInBounds_toArray, List.set_cons_zero, List.set_cons_succ])))
        refine wpTz_or rfl rfl (fun K hK => ?_) (fun K hK => ?_)
        · go_simp
          refine hK.out _ _ ?_ ?_
          · exact HS.out _ ((Keeps.refl w0 []).drew.alloc _)
          (clear hHeld; intro hHeld; clear hK K; (try simp only [Act.put, List.setIfInBounds_toArray, List.set_cons_zero, List.set_cons_succ]))
          (repeat (first | (refine wpTz_take (v := ?_) rfl (by assumption) ?_ (by rfl) ?_; rotate_left; (focus (intro w' hSw; (try dsimp only at hSw); go_simp; (try with_reducible rfl); done)); simp only [Act.put, List.setIfInBounds_toArray, List.set_cons_zero, List.set_cons_succ]) | (refine wpTz_skip rfl (by assumption) (by rfl) ?_; simp only [Act.put, List.setIfInBounds_toArray, List.set_cons_zero, List.set_cons_succ])))
          refine wpTz_or rfl rfl (fun K hK => ?_) (fun K hK => ?_)
          · refine step_app _ el_int (by rfl) _ _ (by rfl) w0.heap.size (some ⟨w0.heap.size, 0, none⟩) 0 0 [] (by rfl) (own_empty w0.drew _) A na c (acc.map (Value.int .i64)) (by rfl) ((show Rd w0 A (acc.map (Value.int .i64)) from HG.out.toRow).keep ((Keeps.refl w0 []).drew.alloc _)) (by simp [HNn.out]) HAz.out (oneCell_ints _ _) (by omega) (by simp <;> omega) ?_
            intro A1 c1 w3 hown hgrow hat
            simp only [Nat.zero_add, List.nil_append] at hown hat ⊢
            have k3 : Keeps w0 w3 [] := ((Keeps.refl w0 []).drew.alloc _).app (own_empty w0.drew _) (Nat.le_refl _) hgrow
            refine hK.out _ _ ?_ ?_
            · exact HS.out _ (k3)
            (clear hHeld; intro hHeld; clear hK K; (try simp only [Act.put, List.setIfInBounds_toArray, List.set_cons_zero, List.set_cons_succ]))
            (repeat (first | (refine wpTz_take (v := ?_) rfl (by assumption) ?_ (by rfl) ?_; rotate_left; (focus (intro w' hSw; (try dsimp only at hSw); go_simp; (try with_reducible rfl); done)); simp only [Act.put, List.setIfInBounds_toArray, List.set_cons_zero, List.set_cons_succ]) | (refine wpTz_skip rfl (by assumption) (by rfl) ?_; simp only [Act.put, List.setIfInBounds_toArray, List.set_cons_zero, List.set_cons_succ])))
            refine wpTz_go rfl (fun K hK => ?_)
            go_simp
            refine hK.out _ _ ?_ ?_
            · exact HS.out _ (k3.alloc _)
            (clear hHeld; intro hHeld; clear hK K; (try simp only [Act.put, List.setIfInBounds_toArray, List.set_cons_zero, List.set_cons_succ]))
            (repeat (first | (refine wpTz_take (v := ?_) rfl (by assumption) ?_ (by rfl) ?_; rotate_left; (focus (intro w' hSw; (try dsimp only at hSw); go_simp; (try with_reducible rfl); done)); simp only [Act.put, List.setIfInBounds_toArray, List.set_cons_zero, List.set_cons_succ]) | (refine wpTz_skip rfl (by assumption) (by rfl) ?_; simp only [Act.put, List.setIfInBounds_toArray, List.set_cons_zero, List.set_cons_succ])))
            refine wpTz_go rfl (fun K hK => ?_)
            refine step_app _ el_int (by rfl) _ _ (by rfl) w0.heap.size A1 na c1 (acc.map (Value.int .i64)) (by rfl) (own_keep0 hown ((Keeps.refl w3 []).alloc _)) (some ⟨w3.heap.size, 0, none⟩) 1 1 [.int .i64 n] (by rfl) (Rd.one w3 _ [.int .i64 n]) rfl (by simp) (by simp [Value.oneCell']) (by omega) (by have := k3.size; first | omega | (simp; omega)) ?_
            intro A2 c2 w9 hown2 hgrow2 hat2
            have k9 : Keeps w0 w9 [] := (k3.alloc _).app (own_keep0 hown ((Keeps.refl w3 []).alloc _)) (Nat.le_refl _) hgrow2
            refine hK.out _ _ ?_ ?_
            · exact HS.out _ k9
            (clear hHeld; intro hHeld; clear hK K; (try simp only [Act.put, List.setIfInBounds_toArray, List.set_cons_zero, List.set_cons_succ]))
            (repeat (first | (refine wpTz_take (v := ?_) rfl (by assumption) ?_ (by rfl) ?_; rotate_left; (focus (intro w' hSw; (try dsimp only at hSw); go_simp; (try with_reducible rfl); done)); simp only [Act.put, List.setIfInBounds_toArray, List.set_cons_zero, List.set_cons_succ]) | (refine wpTz_skip rfl (by assumption) (by rfl) ?_; simp only [Act.put, List.setIfInBounds_toArray, List.set_cons_zero, List.set_cons_succ])))
            refine wpTz_last rfl (fun K hK => ?_)
            go_simp
            refine hK.out _ _ (NoPanic.normal ?_); clear hK K; (try simp only [Act.put, List.setIfInBounds_toArray, List.set_cons_zero, List.set_cons_succ])
            go_wp2_with fail
            go_ret
            exact HF.out A2 c2 w9 hown2 k9
          · go_simp
            refine hK.out _ _ ?_ ?_
            · exact HS.out _ ((((Keeps.refl w0 []).drew.alloc _).alloc _))
            (clear hHeld; intro hHeld; clear hK K; (try simp only [Act.put, List.setIfInBounds_toArray, List.set_cons_zero, List.set_cons_succ]))
            (repeat (first | (refine wpTz_take (v := ?_) rfl (by assumption) ?_ (by rfl) ?_; rotate_left; (focus (intro w' hSw; (try dsimp only at hSw); go_simp; (try with_reducible rfl); done)); simp only [Act.put, List.setIfInBounds_toArray, List.set_cons_zero, List.set_cons_succ]) | (refine wpTz_skip rfl (by assumption) (by rfl) ?_; simp only [Act.put, List.setIfInBounds_toArray, List.set_cons_zero, List.set_cons_succ])))
            refine wpTz_go rfl (fun K hK => ?_)
            refine step_app _ el_int (by rfl) _ _ (by rfl) w0.heap.size (some ⟨w0.heap.size, 0, none⟩) 0 0 [] (by rfl) (own_keep0 (own_empty w0.drew _) ((Keeps.refl _ []).alloc _)) A na c (acc.map (Value.int .i64)) (by rfl) ((show Rd w0 A (acc.map (Value.int .i64)) from HG.out.toRow).keep (((Keeps.refl w0 []).drew.alloc _).alloc _)) (by simp [HNn.out]) HAz.out (oneCell_ints _ _) (by omega) (by simp <;> omega) ?_
            intro A1 c1 w3 hown hgrow hat
            simp only [Nat.zero_add, List.nil_append] at hown hat ⊢
            have k3 : Keeps w0 w3 [] := (((Keeps.refl w0 []).drew.alloc _).alloc _).app (own_keep0 (own_empty w0.drew _) ((Keeps.refl _ []).alloc _)) (Nat.le_refl _) hgrow
            have hlit : Rd w3 (some ⟨w0.heap.size + 1, 0, none⟩) [.int .i64 n] := (by rw [show w0.heap.size + 1 = (w0.drew.alloc (.cells #[] 3)).heap.size from (World.size_alloc _ _).symm]; exact (Rd.one (w0.drew.alloc (.cells #[] 3)) 3 [.int .i64 n]).keepL (Keeps.ofGrown hgrow) (fun b off e _ hm => by simp [ownL, Value.ownBlock] at hm; subst hm; revert e; simp))
            refine hK.out _ _ ?_ ?_
            · exact HS.out _ (k3)
            (clear hHeld; intro hHeld; clear hK K; (try simp only [Act.put, List.setIfInBounds_toArray, List.set_cons_zero, List.set_cons_succ]))
            (repeat (first | (refine wpTz_take (v := ?_) rfl (by assumption) ?_ (by rfl) ?_; rotate_left; (focus (intro w' hSw; (try dsimp only at hSw); go_simp; (try with_reducible rfl); done)); simp only [Act.put, List.setIfInBounds_toArray, List.set_cons_zero, List.set_cons_succ]) | (refine wpTz_skip rfl (by assumption) (by rfl) ?_; simp only [Act.put, List.setIfInBounds_toArray, List.set_cons_zero, List.set_cons_succ])))
            refine wpTz_go rfl (fun K hK => ?_)
            refine step_app _ el_int (by rfl) _ _ (by rfl) w0.heap.size A1 na c1 (acc.map (Value.int .i64)) (by rfl) (hown) (some ⟨w0.heap.size + 1, 0, none⟩) 1 1 [.int .i64 n] (by rfl) (hlit) rfl (by simp) (by simp [Value.oneCell']) (by omega) (by have := k3.size; first | omega | (simp; omega)) ?_
            intro A2 c2 w9 hown2 hgrow2 hat2
            have k9 : Keeps w0 w9 [] := (k3).app (hown) (Nat.le_refl _) hgrow2
            refine hK.out _ _ ?_ ?_
            · exact HS.out _ k9
            (clear hHeld; intro hHeld; clear hK K; (try simp only [Act.put, List.setIfInBounds_toArray, List.set_cons_zero, List.set_cons_succ]))
            (repeat (first | (refine wpTz_take (v := ?_) rfl (by assumption) ?_ (by rfl) ?_; rotate_left; (focus (intro w' hSw; (try dsimp only at hSw); go_simp; (try with_reducible rfl); done)); simp only [Act.put, List.setIfInBounds_toArray, List.set_cons_zero, List.set_cons_succ]) | (refine wpTz_skip rfl (by assumption) (by rfl) ?_; simp only [Act.put, List.setIfInBounds_toArray, List.set_cons_zero, List.set_cons_succ])))
            refine wpTz_last rfl (fun K hK => ?_)
            go_simp
            refine hK.out _ _ (NoPanic.normal ?_); clear hK K; (try simp only [Act.put, List.setIfInBounds_toArray, List.set_cons_zero, List.set_cons_succ])
            go_wp2_with fail
            go_ret
            exact HF.out A2 c2 w9 hown2 k9
        · go_simp
          refine hK.out _ _ ?_ ?_
          · exact HS.out _ ((Keeps.refl w0 []).drew.alloc _)
          (clear hHeld; intro hHeld; clear hK K; (try simp only [Act.put, List.setIfInBounds_toArray, List.set_cons_zero, List.set_cons_succ]))
          (repeat (first | (refine wpTz_take (v := ?_) rfl (by assumption) ?_ (by rfl) ?_; rotate_left; (focus (intro w' hSw; (try dsimp only at hSw); go_simp; (try with_reducible rfl); done)); simp only [Act.put, List.setIfInBounds_toArray, List.set_cons_zero, List.set_cons_succ]) | (refine wpTz_skip rfl (by assumption) (by rfl) ?_; simp only [Act.put, List.setIfInBounds_toArray, List.set_cons_zero, List.set_cons_succ])))
          refine wpTz_go rfl (fun K hK => ?_)
          go_simp
          refine hK.out _ _ ?_ ?_
          · exact HS.out _ ((((Keeps.refl w0 []).drew.alloc _).alloc _))
          (clear hHeld; intro hHeld; clear hK K; (try simp only [Act.put, List.setIfInBounds_toArray, List.set_cons_zero, List.set_cons_succ]))
          (repeat (first | (refine wpTz_take (v := ?_) rfl (by assumption) ?_ (by rfl) ?_; rotate_left; (focus (intro w' hSw; (try dsimp only at hSw); go_simp; (try with_reducible rfl); done)); simp only [Act.put, List.setIfInBounds_toArray, List.set_cons_zero, List.set_cons_succ]) | (refine wpTz_skip rfl (by assumption) (by rfl) ?_; simp only [Act.put, List.setIfInBounds_toArray, List.set_cons_zero, List.set_cons_succ])))
          refine wpTz_go rfl (fun K hK => ?_)
          refine step_app _ el_int (by rfl) _ _ (by rfl) w0.heap.size (some ⟨w0.heap.size + 1, 0, none⟩) 0 0 [] (by rfl) (by rw [show w0.heap.size + 1 = (w0.drew.alloc (.cells #[.int .i64 n] 3)).heap.size from (World.size_alloc _ _).symm]; exact own_base (own_empty (w0.drew.alloc (.cells #[.int .i64 n] 3)) _) (by simp)) A na c (acc.map (Value.int .i64)) (by rfl) ((show Rd w0 A (acc.map (Value.int .i64)) from HG.out.toRow).keep (((Keeps.refl w0 []).drew.alloc _).alloc _)) (by simp [HNn.out]) HAz.out (oneCell_ints _ _) (by omega) (by simp <;> omega) ?_
          intro A1 c1 w3 hown hgrow hat
          simp only [Nat.zero_add, List.nil_append] at hown hat ⊢
          have k3 : Keeps w0 w3 [] := (((Keeps.refl w0 []).drew.alloc _).alloc _).app (by rw [show w0.heap.size + 1 = (w0.drew.alloc (.cells #[.int .i64 n] 3)).heap.size from (World.size_alloc _ _).symm]; exact own_base (own_empty (w0.drew.alloc (.cells #[.int .i64 n] 3)) _) (by simp)) (Nat.le_refl _) hgrow
          have hlit : Rd w3 (some ⟨w0.heap.size, 0, none⟩) [.int .i64 n] := (((Rd.one w0.drew 3 [.int .i64 n]).keep ((Keeps.refl _ []).alloc _)).keepL (Keeps.ofGrown hgrow) (fun b off e _ hm => by simp [ownL, Value.ownBlock] at hm; subst hm; revert e; simp))
          refine hK.out _ _ ?_ ?_
          · exact HS.out _ (k3)
          (clear hHeld; intro hHeld; clear hK K; (try simp only [Act.put, List.setIfInBounds_toArray, List.set_cons_zero, List.set_cons_succ]))
          (repeat (first | (refine wpTz_take (v := ?_) rfl (by assumption) ?_ (by rfl) ?_; rotate_left; (focus (intro w' hSw; (try dsimp only at hSw); go_simp; (try with_reducible rfl); done)); simp only [Act.put, List.setIfInBounds_toArray, List.set_cons_zero, List.set_cons_succ]) | (refine wpTz_skip rfl (by assumption) (by rfl) ?_; simp only [Act.put, List.setIfInBounds_toArray, List.set_cons_zero, List.set_cons_succ])))
          refine wpTz_go rfl (fun K hK => ?_)
          refine step_app _ el_int (by rfl) _ _ (by rfl) w0.heap.size A1 na c1 (acc.map (Value.int .i64)) (by rfl) (hown) (some ⟨w0.heap.size, 0, none⟩) 1 1 [.int .i64 n] (by rfl) (hlit) rfl (by simp) (by simp [Value.oneCell']) (by omega) (by have := k3.size; first | omega | (simp; omega)) ?_
          intro A2 c2 w9 hown2 hgrow2 hat2
          have k9 : Keeps w0 w9 [] := (k3).app (hown) (Nat.le_refl _) hgrow2
          refine hK.out _ _ ?_ ?_
          · exact HS.out _ k9
          (clear hHeld; intro hHeld; clear hK K; (try simp only [Act.put, List.setIfInBounds_toArray, List.set_cons_zero, List.set_cons_succ]))
          (repeat (first | (refine wpTz_take (v := ?_) rfl (by assumption) ?_ (by rfl) ?_; rotate_left; (focus (intro w' hSw; (try dsimp only at hSw); go_simp; (try with_reducible rfl); done)); simp only [Act.put, List.setIfInBounds_toArray, List.set_cons_zero, List.set_cons_succ]) | (refine wpTz_skip rfl (by assumption) (by rfl) ?_; simp only [Act.put, List.setIfInBounds_toArray, List.set_cons_zero, List.set_cons_succ])))
          refine wpTz_last rfl (fun K hK => ?_)
          go_simp
          refine hK.out _ _ (NoPanic.normal ?_); clear hK K; (try simp only [Act.put, List.setIfInBounds_toArray, List.set_cons_zero, List.set_cons_succ])
          go_wp2_with fail
          go_ret
          exact HF.out A2 c2 w9 hown2 k9
    · rw [if_neg h0] at hrt
      have e0 : (k == 0) = false := by simpa using h0
      have HW : Hid (tWalk acc (.mk k n s l) = tWalks acc l) := by show _ = _; rw [tWalk, if_neg h0]
      clear hl hR hS hc hz hk ih hall hm hN hA hna hsz hrt
      unfold IntsDone
      go_enter Tryz.func88, Tryz.ntmps88
      go_wp2_with fail
      go_loopw [1, 5] (fun x i wr => ∃ (j : Nat) (A1 : Option Addr) (c1 : Nat), j ≤ m ∧ i = .int .i64 j ∧ x = .slice A1 (tWalks acc (l.take j)).length c1 ∧ Nums .i64 wr wr.heap.size A1 (tWalks acc (l.take j)) ∧ (A1 = none → c1 = 0) ∧ Keeps w wr [] ∧ Blk wr w.heap.size 24 #[.int .i64 k, .int .i64 n, .string s, .slice A0 m c0]) (fun _ i _ => m - (intOf i).toNat)
      case atStart => exact ⟨0, A, c, Nat.zero_le _, rfl, by simp [tWalks, HNn.out], by simpa [tWalks] using (HNa.out.keep (fun p hp => HK0.out.cell hp (by simp))).more HK0.out.size, HAz.out, HK0.out, HB0.out⟩
      case round =>
        clear HB0 HK0
        obtain ⟨j, A1, c1, hj, rfl, rfl, hn1, hz1, hk, hb⟩ := hrel
        have HN1 := Lib.hid hn1
        have HZ1 := Lib.hid hz1
        have HK := Lib.hid hk
        have HB := Lib.hid hb
        have q3 := hb.cell 3
        clear hn1 hz1 hk hb
        by_cases hlt : j < m
        · obtain ⟨a, hx⟩ := at_of HM.out hlt
          have ha := List.mem_of_getElem? hx
          have htk : l.take (j + 1) = l.take j ++ [a] := by rw [List.take_add_one, hx]; rfl
          have HN2 : Hid (tWalks acc (l.take (j + 1)) = tWalk (tWalks acc (l.take j)) a) := by show _ = _; rw [htk, tWalks_snoc]
          have hlen : (tWalk (tWalks acc (l.take j)) a).length ≤ 1000000 := by
            have h9 := HZ.out
            rw [HW.out] at h9
            rw [← HN2.out]
            exact Nat.le_trans (tWalks_take acc l (j + 1)) h9
          obtain ⟨v', b, off, _, htr, rfl, hb, p0, p1, p2, p3⟩ := (HT.out.keep HK.out).get (HR.out.keep HK.out) hx
          have hca := HI.out a ha v' wr A1 c1 _ _ htr (HRt.out a ha) HN1.out HZ1.out rfl hlen
          unfold tvV IntsDone at hca
          rw [← HN2.out] at hca
          have HC := Lib.hid hca
          clear hca htr hx ha htk hlen
          have b0 : (0 : Int) ≤ (j : Int) := Int.natCast_nonneg _
          have b1 : (j : Int) < (m : Int) := by omega
          go_wp2_with fail
          refine HC.out.mono ?_
          rintro e w2 ⟨A2, c2, rfl, hn2, hz2, k2⟩
          have HN3 := Lib.hid hn2
          clear hn2
          go_wp2_with fail
          go_roundw
          case rel => exact ⟨j + 1, A2, c2, by omega, by go_num, rfl, HN3.out, hz2, HK.out.trans k2, HB.out.keep k2 (by simp)⟩
          case measure => simp [intOf]; omega
        · obtain rfl : m = j := by omega
          have htk : l.take m = l := by rw [← HM.out, List.take_length]
          rw [htk] at HN1 ⊢
          clear hlt hj
          go_wp2_with fail
          go_ret
          exact ⟨A1, c1, by rw [HW.out]; rfl, by rw [HW.out]; exact HN1.out, HZ1.out, HK.out⟩
end Go.Proofs.YtnonfmaehfmigaaGreatDoor

/- Terms: the document's Vars, whole. -/
namespace Go.Proofs.YtnonfmaehfmigaaGreatDoor
open Go.RowKit

set_option maxHeartbeats 1600000 in
theorem refVarsL_any (l : List Tm) (vs : List TV) (A : Option Addr) (m c : Nat) (w : World) (hT : Trs w (fun _ => True) l vs) (hR : Rd w A (vs.flatMap tvE)) (hm : l.length = m) (hmb : m ≤ 9223372036854775807) (hsz : (tVars l).length ≤ 1000000) (hrt : ∀ a ∈ l, tRight a = true) :
    Calls Tryz.prog 73 #[.slice A m c] w fun e w' => ∃ A' c', e = .returned (.slice A' (tVars l).length c') ∧ Nums .i64 w' w'.heap.size A' (tVars l) ∧ Keeps w w' [] := by
  have HT := Lib.hid hT
  have HR := Lib.hid hR
  have HM := Lib.hid hm
  have HZ : Hid ((tWalks [] l).length ≤ 1000000) := hsz
  have HRt := Lib.hid hrt
  clear hT hR hm hsz hrt
  go_enter Tryz.func73, Tryz.ntmps73
  go_wp2_with fail
  go_loopw [3, 4] (fun x i wr => ∃ (j : Nat) (A1 : Option Addr) (c1 : Nat), j ≤ m ∧ i = .int .i64 j ∧ x = .slice A1 (tWalks [] (l.take j)).length c1 ∧ Nums .i64 wr wr.heap.size A1 (tWalks [] (l.take j)) ∧ (A1 = none → c1 = 0) ∧ Keeps w wr []) (fun _ i _ => m - (intOf i).toNat)
  case atStart => exact ⟨0, none, 0, Nat.zero_le _, rfl, by simp [tWalks], by simpa [tWalks] using Nums.nil, fun _ => rfl, Keeps.refl _ _⟩
  case round =>
    obtain ⟨j, A1, c1, hj, rfl, rfl, hn1, hz1, hk⟩ := hrel
    have HN1 := Lib.hid hn1
    have HZ1 := Lib.hid hz1
    have HK := Lib.hid hk
    clear hn1 hz1 hk
    by_cases hlt : j < m
    · obtain ⟨a, hx⟩ := at_of HM.out hlt
      have ha := List.mem_of_getElem? hx
      have htk : l.take (j + 1) = l.take j ++ [a] := by rw [List.take_add_one, hx]; rfl
      have HN2 : Hid (tWalks [] (l.take (j + 1)) = tWalk (tWalks [] (l.take j)) a) := by show _ = _; rw [htk, tWalks_snoc]
      have hlen : (tWalk (tWalks [] (l.take j)) a).length ≤ 1000000 := by
        rw [← HN2.out]
        exact Nat.le_trans (tWalks_take [] l (j + 1)) HZ.out
      obtain ⟨v', b, off, _, htr, rfl, hb, p0, p1, p2, p3⟩ := (HT.out.keep HK.out).get (HR.out.keep HK.out) hx
      have hca := refVars1_any a v' wr A1 c1 _ _ htr (HRt.out a ha) HN1.out HZ1.out rfl hlen
      unfold tvV IntsDone at hca
      rw [← HN2.out] at hca
      have HC := Lib.hid hca
      clear hca htr hx ha htk hlen
      have b0 : (0 : Int) ≤ (j : Int) := Int.natCast_nonneg _
      have b1 : (j : Int) < (m : Int) := by omega
      go_wp2_with fail
      refine HC.out.mono ?_
      rintro e w2 ⟨A2, c2, rfl, hn2, hz2, k2⟩
      have HN3 := Lib.hid hn2
      clear hn2
      go_wp2_with fail
      go_roundw
      case rel => exact ⟨j + 1, A2, c2, by omega, by go_num, rfl, HN3.out, hz2, HK.out.trans k2⟩
      case measure => simp [intOf]; omega
    · obtain rfl : m = j := by omega
      have htk : l.take m = l := by rw [← HM.out, List.take_length]
      rw [htk] at HN1 ⊢
      clear hlt hj
      go_wp2_with fail
      go_ret
      exact ⟨A1, c1, rfl, HN1.out, HK.out⟩
theorem refVars_any (l : List Tm) (vs : List TV) (A : Option Addr) (m c : Nat) (w : World) (hT : Trs w (fun _ => True) l vs) (hR : Rd w A (vs.flatMap tvE)) (hm : l.length = m) (hsz : tSizes l ≤ 1000000) (hrt : ∀ a ∈ l, tRight a = true) :
    Calls Tryz.prog 73 #[.slice A m c] w fun e w' => ∃ A' c', e = .returned (.slice A' (tVars l).length c') ∧ Nums .i64 w' w'.heap.size A' (tVars l) ∧ Keeps w w' [] :=
  refVarsL_any l vs A m c w hT hR hm (by have := tSizes_len l; omega) (Nat.le_trans (tVars_sizes l) hsz) hrt
end Go.Proofs.YtnonfmaehfmigaaGreatDoor
