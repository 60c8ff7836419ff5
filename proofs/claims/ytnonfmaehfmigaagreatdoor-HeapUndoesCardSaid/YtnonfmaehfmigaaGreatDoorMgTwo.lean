import Derived.Test.YtnonfmaehfmigaaGreatDoorMgBind
import Derived.Test.YtnonfmaehfmigaaGreatDoorMgOf
import Derived.Test.YtnonfmaehfmigaaGreatDoorTmFix
/- Variables become names: the law's ground. Printed by gen_mgground.py. -/
namespace Go.Proofs.YtnonfmaehfmigaaGreatDoor
open Go.RowKit

mutual
def tG : Tm → Tm
  | .mk k _ s l => if k = 0 then .mk 1 0 ⟨#[98]⟩ [] else .mk k 0 s (tGs l)
def tGs : List Tm → List Tm
  | [] => []
  | a :: l => tG a :: tGs l
end
theorem tGs_map : ∀ l : List Tm, tGs l = l.map tG
  | [] => by simp [tGs]
  | a :: l => by rw [tGs, tGs_map l]; simp
end Go.Proofs.YtnonfmaehfmigaaGreatDoor

/- Terms made one: what has no variables put in; the plain law of MguMeets. -/
namespace Go.Proofs.YtnonfmaehfmigaaGreatDoor
open Go.RowKit

def Vs6 : List Int := [0, 1, 2, 3, 4, 5]
theorem few6 : Few9 Vs6 := fun v hv => by
  simp only [Vs6, List.mem_cons, List.not_mem_nil, or_false] at hv
  rcases hv with rfl | rfl | rfl | rfl | rfl | rfl <;> omega
theorem mem6 {v : Int} (h0 : 0 ≤ v) (h6 : v < 6) : v ∈ Vs6 := by
  simp only [Vs6, List.mem_cons, List.not_mem_nil, or_false]
  omega
theorem fixT_vars {f : Tm → Int → Tm × Int} (hf : ∀ a n, ∀ v ∈ tV (f a n).1, v ∈ Vs6) (d : Nat) (t : Tm) (left : Int) : ∀ v ∈ tV (fixT f d t left).1, v ∈ Vs6 := by
  cases t with
  | mk k n s l =>
    rw [fixT]
    intro v hv
    simp only at hv
    rw [tV] at hv
    by_cases hk : fixK d left k = 0
    · rw [if_pos hk] at hv
      simp only [List.mem_singleton] at hv
      rw [hv, fixN, if_pos hk]
      have := u64_nonneg n
      exact mem6 (by omega) (by omega)
    · rw [if_neg hk] at hv
      obtain ⟨a, ha, hv⟩ := mem_tVL.1 hv
      obtain ⟨b, m, rfl⟩ := fixes_mem ha
      exact hf b m v hv
theorem tFix_vars : ∀ (d : Nat) (t : Tm) (left : Int), ∀ v ∈ tV (tFix d t left).1, v ∈ Vs6
  | 0, .mk k n s l, left => by
    have h : fixW (fixK 0 left k) n = 0 := (fixW_le _ n).2 ((fixK_range 0 left k).2.2 rfl)
    have := fixT_vars (f := fun _ n => (vr 0, n)) (fun a n v hv => by
      rw [vr, tV, if_pos rfl] at hv
      simp at hv
      subst hv
      exact mem6 (by omega) (by omega)) 0 (.mk k n s l) left
    rw [tFix]
    rw [fixT, h] at this ⊢
    simpa [fixes] using this
  | d + 1, t, left => fixT_vars (tFix_vars d) (d + 1) t left
theorem fixT_dep {f : Tm → Int → Tm × Int} {D : Nat} (hf : ∀ a n, tDep (f a n).1 ≤ D) (d : Nat) (t : Tm) (left : Int) : tDep (fixT f d t left).1 ≤ D + 1 := by
  cases t with
  | mk k n s l =>
    rw [fixT]
    simp only
    rw [tDep]
    have : tDeps (fixes f l (left - 1) (fixW (fixK d left k) n)).1 ≤ D := tDeps_le fun b hb => by
      obtain ⟨a, m, rfl⟩ := fixes_mem hb
      exact hf a m
    omega
theorem tFix_dep : ∀ (d : Nat) (t : Tm) (left : Int), tDep (tFix d t left).1 ≤ d + 1
  | 0, .mk k n s l, left => by
    have h : fixW (fixK 0 left k) n = 0 := (fixW_le _ n).2 ((fixK_range 0 left k).2.2 rfl)
    rw [tFix, fixT, h]
    simp [fixes, tDep, tDeps]
  | d + 1, t, left => fixT_dep (tFix_dep d) (d + 1) t left
theorem lFix_in (t : Tm) : In Vs6 (lFix t) := ⟨lFix_right t, tFix_vars 4 t 30⟩
theorem lFix_dep (t : Tm) : tDep (lFix t) ≤ 5 := tFix_dep 4 t 30
/-- A term without variables. -/
theorem tG_ground (t : Tm) : tV (tG t) = [] := by
  induction t using Tm.ind_ with
  | h k n s l ih =>
    rw [tG]
    by_cases h0 : k = 0
    · rw [if_pos h0, tV, if_neg (by omega), tVL]
    · rw [if_neg h0, tV, if_neg h0, tGs_map]
      refine List.eq_nil_iff_forall_not_mem.2 fun v hv => ?_
      obtain ⟨a, ha, hv⟩ := mem_tVL.1 hv
      obtain ⟨b, hb, rfl⟩ := List.mem_map.1 ha
      rw [ih b hb] at hv
      cases hv
theorem tG_right (t : Tm) : tRight t = true → tRight (tG t) = true := by
  induction t using Tm.ind_ with
  | h k n s l ih =>
    intro h
    rw [tG]
    by_cases h0 : k = 0
    · rw [if_pos h0]; rfl
    · rw [if_neg h0, tGs_map]
      have hn := right_n h h0
      subst hn
      refine right_with h (by simp) fun a ha => ?_
      obtain ⟨b, hb, rfl⟩ := List.mem_map.1 ha
      exact ih b hb (right_parts h b hb)
theorem tG_dep (t : Tm) : tDep (tG t) ≤ tDep t := by
  induction t using Tm.ind_ with
  | h k n s l ih =>
    rw [tG]
    by_cases h0 : k = 0
    · rw [if_pos h0, tDep, tDep, tDeps]; omega
    · rw [if_neg h0, tDep, tDep, tGs_map]
      have : tDeps (l.map tG) ≤ tDeps l := tDeps_le fun a ha => by
        obtain ⟨b, hb, rfl⟩ := List.mem_map.1 ha
        exact Nat.le_trans (ih b hb) (tDeps_mem hb)
      omega
/-- What the law puts in. -/
def Gd (t : Tm) : Tm := tG (lFix t)
theorem Gd_right (t : Tm) : tRight (Gd t) = true := tG_right _ (lFix_right t)
theorem Gd_ground (t : Tm) : tV (Gd t) = [] := tG_ground _
theorem Gd_dep (t : Tm) : tDep (Gd t) ≤ 5 := Nat.le_trans (tG_dep _) (lFix_dep t)
/-- What has no variables is put in. -/
structure GS (s : Sbt) : Prop where
  nd : (s.map (·.1)).Nodup
  rt : ∀ p ∈ s, tRight p.2 = true
  gr : ∀ p ∈ s, tV p.2 = []
def way (s : Sbt) (n : Int) : Tm := (sOf s n).getD (vr n)
theorem GS.si {s : Sbt} (h : GS s) : SI s (way s) (fun _ => 0) := by
  have hno : ∀ m x, sOf s m = some x → tV x = [] := fun m x hx => h.gr _ (sOf_mem hx)
  refine ⟨h.nd, h.rt, fun m hm => by unfold way; rw [hm]; rfl, fun m x hx => ?_, fun m v hv => ?_, fun m x hx v hv => ?_⟩
  · rw [way, hx]
    exact (tS_fix (h.rt _ (sOf_mem hx)) (by rw [hno m x hx]; simp)).symm
  · unfold way at hv
    cases hs : sOf s m with
    | none => rw [hs] at hv; rw [Option.getD_none, vr, tV, if_pos rfl] at hv; simp at hv; subst hv; exact hs
    | some x => rw [hs, Option.getD_some, hno m x hs] at hv; cases hv
  · rw [hno m x hx] at hv; cases hv
theorem GS.ap {s : Sbt} (h : GS s) {t : Tm} (ht : tRight t = true) : apD s deepest t = tS (way s) t := h.si.ap deepest t ht fun v _ _ => by unfold deepest; omega
theorem GS.put_in {s : Sbt} (h : GS s) {t : Tm} (ht : In Vs6 t) (hd : tDep t ≤ 5) (hs : ∀ p ∈ s, tDep p.2 ≤ 5) : In Vs6 (tS (way s) t) ∧ tDep (tS (way s) t) ≤ d0 := by
  have hw : ∀ v, v ∈ Vs6 → tRight (way s v) = true ∧ (∀ u ∈ tV (way s v), u = v) ∧ tDep (way s v) ≤ 5 := fun v hv => by
    unfold way
    cases hs' : sOf s v with
    | none => exact ⟨vr_right (few6 v hv).1 (few6 v hv).2, fun u hu => by rw [Option.getD_none, vr, tV, if_pos rfl] at hu; simpa using hu, by rw [Option.getD_none, vr, tDep, tDeps]; omega⟩
    | some x => exact ⟨h.rt _ (sOf_mem hs'), (fun u hu => by rw [Option.getD_some, h.gr _ (sOf_mem hs')] at hu; cases hu), hs _ (sOf_mem hs')⟩
  refine ⟨⟨right_tS t ht.rt fun v hv => (hw v (ht.vs v hv)).1, fun v hv => ?_⟩, ?_⟩
  · obtain ⟨u, hu, hv⟩ := (mem_tS t).1 hv
    rw [(hw u (ht.vs u hu)).2.1 v hv]
    exact ht.vs u hu
  · have := dep_tS (f := way s) (d := 4) t fun v hv => (hw v (ht.vs v hv)).2.2
    unfold d0
    omega
/-- A way that goes over another. -/
theorem GS.over {s : Sbt} (h : GS s) {f : Int → Tm} (hf : ∀ n x, sOf s n = some x → f n = x) (t : Tm) : tS f (tS (way s) t) = tS f t := by
  rw [tS_comp]
  refine tS_congr t fun n _ => ?_
  unfold way
  cases hs : sOf s n with
  | none => rw [Option.getD_none, vr, tS, if_pos rfl]
  | some x =>
    rw [Option.getD_some, hf n x hs]
    exact tS_fix (h.rt _ (sOf_mem hs)) (by rw [h.gr _ (sOf_mem hs)]; simp)

/-! ### MguMeets -/
def half (b : Nat) (l : List Tm) : Nat → Sbt
  | 0 => []
  | j + 1 => half b l j ++ if j % 2 = b then [((j : Int), Gd (l.getD j tz))] else []
theorem half_key {b : Nat} {l : List Tm} : ∀ {j : Nat} {p : Int × Tm}, p ∈ half b l j → ∃ i : Nat, i < j ∧ i % 2 = b ∧ p = ((i : Int), Gd (l.getD i tz))
  | 0, p, h => by simp [half] at h
  | j + 1, p, h => by
    rw [half] at h
    rcases List.mem_append.1 h with h | h
    · obtain ⟨i, h1, h2, h3⟩ := half_key h
      exact ⟨i, by omega, h2, h3⟩
    · split at h
      · rename_i hb
        simp at h
        exact ⟨j, by omega, hb, h⟩
      · cases h
theorem half_gs (b : Nat) (l : List Tm) : ∀ j : Nat, GS (half b l j) := fun j => by
  refine ⟨?_, fun p hp => ?_, fun p hp => ?_⟩
  · induction j with
    | zero => simp [half]
    | succ j ih =>
      rw [half, List.map_append]
      refine List.nodup_append.2 ⟨ih, ?_, fun x hx y hy e => ?_⟩
      · split <;> simp
      · obtain ⟨p, hp, rfl⟩ := List.mem_map.1 hx
        obtain ⟨i, h1, _, rfl⟩ := half_key hp
        split at hy
        · simp at hy
          omega
        · simp at hy
  · obtain ⟨i, _, _, rfl⟩ := half_key hp
    exact Gd_right _
  · obtain ⟨i, _, _, rfl⟩ := half_key hp
    exact Gd_ground _
theorem half_dep (b : Nat) (l : List Tm) (j : Nat) : ∀ p ∈ half b l j, tDep p.2 ≤ 5 := fun p hp => by
  obtain ⟨i, _, _, rfl⟩ := half_key hp
  exact Gd_dep _
theorem half_len (b : Nat) (l : List Tm) : ∀ j : Nat, (half b l j).length ≤ j
  | 0 => by simp [half]
  | j + 1 => by
    have := half_len b l j
    rw [half, List.length_append]
    split <;> simp <;> omega
/-- Two terms made of one are made one. -/
theorem meets_law (t : Tm) (l : List Tm) (j : Nat) :
    ∃ x y, apD (half 0 l j) deepest (lFix t) = x ∧ apD (half 1 l j) deepest (lFix t) = y ∧ In Vs6 x ∧ In Vs6 y ∧ tDep x ≤ d0 ∧ tDep y ≤ d0 ∧ ∃ fuel s, uRun fuel [(x, y)] [] = some (.ok s) := by
  have h0 := half_gs 0 l j
  have h1 := half_gs 1 l j
  have i0 := h0.put_in (lFix_in t) (lFix_dep t) (half_dep 0 l j)
  have i1 := h1.put_in (lFix_in t) (lFix_dep t) (half_dep 1 l j)
  refine ⟨_, _, h0.ap (lFix_right t), h1.ap (lFix_right t), i0.1, i1.1, i0.2, i1.2, ?_⟩
  obtain ⟨fuel, res, hr, hg⟩ := unify_good few6 (by decide) i0.1 i1.1
  have hdis : ∀ n x y, sOf (half 0 l j) n = some x → sOf (half 1 l j) n = some y → False := fun n x y hx hy => by
    obtain ⟨i, _, h2, h3⟩ := half_key (sOf_mem hx)
    obtain ⟨i', _, h2', h3'⟩ := half_key (sOf_mem hy)
    injection h3 with h3
    injection h3' with h3'
    omega
  have huni : Uni (fun n => ((sOf (half 0 l j) n).or (sOf (half 1 l j) n)).getD (vr n)) [(tS (way (half 0 l j)) (lFix t), tS (way (half 1 l j)) (lFix t))] := by
    intro p hp
    simp at hp
    subst hp
    show tS _ (tS _ _) = tS _ (tS _ _)
    rw [h0.over, h1.over]
    · intro n x hx
      cases hx0 : sOf (half 0 l j) n with
      | none => simp [hx]
      | some y => exact (hdis n y x hx0 hx).elim
    · intro n x hx
      simp [hx]
  cases res with
  | ok s => exact ⟨fuel, s, hr⟩
  | cyc => exact (hg _ (Rs.nil _) huni).elim
  | clash => exact (hg _ (Rs.nil _) huni).elim
end Go.Proofs.YtnonfmaehfmigaaGreatDoor

/- Two rows of pairs that are made side by side. No function in sight. -/
namespace Go.Proofs.YtnonfmaehfmigaaGreatDoor
open Go.RowKit

structure Two (pt : TypeId) (base : Nat) (w wr : World) (sa sb : Sbt) (A : Option Addr) (m c : Nat) (B : Option Addr) (n d : Nat) (pa pb : List (Int × TV)) : Prop where
  oa : wr.ownsRow base pt 5 (.slice A m c) m (pa.flatMap pvE)
  ob : wr.ownsRow base pt 5 (.slice B n d) n (pb.flatMap pvE)
  ra : Prs wr (fun b => b ∉ ownL (.slice A m c) ∧ b ∉ ownL (.slice B n d)) sa pa
  rb : Prs wr (fun b => b ∉ ownL (.slice A m c) ∧ b ∉ ownL (.slice B n d)) sb pb
  ne : ∀ b ∈ ownL (.slice A m c), b ∉ ownL (.slice B n d)
  keep : Keeps w wr []
  low : w.heap.size ≤ base
section
variable {pt : TypeId} {base : Nat} {w wr : World} {sa sb : Sbt} {A B : Option Addr} {m c n d : Nat} {pa pb : List (Int × TV)}
theorem Two.swap (h : Two pt base w wr sa sb A m c B n d pa pb) : Two pt base w wr sb sa B n d A m c pb pa :=
  ⟨h.ob, h.oa, h.rb.mono fun _ hb => ⟨hb.2, hb.1⟩, h.ra.mono fun _ hb => ⟨hb.2, hb.1⟩, fun b hb hm => h.ne b hm hb, h.keep, h.low⟩
theorem Two.start (hk : Keeps w wr []) (hl : w.heap.size ≤ base) : Two pt base w wr [] [] none 0 0 none 0 0 [] [] :=
  ⟨World.ownsRow_nil _ _ _ _, World.ownsRow_nil _ _ _ _, Prs.nil, Prs.nil, by simp [ownL, Value.ownBlock], hk, hl⟩
theorem Two.keep0 (h : Two pt base w wr sa sb A m c B n d pa pb) {W : World} (k : Keeps wr W []) : Two pt base w W sa sb A m c B n d pa pb :=
  ⟨own_keep0 h.oa k, own_keep0 h.ob k, h.ra.keep k, h.rb.keep k, h.ne, h.keep.trans k, h.low⟩
theorem Two.push (h0 : Two pt base w wr sa sb A m c B n d pa pb) {W W2 : World} (k : Keeps wr W []) {x : Int} {t : Tm} {v : TV} (ht : Tr W (fun b => wr.heap.size ≤ b) t v) {A' : Option Addr} {c' : Nat}
    (ho : W2.ownsRow base pt 5 (.slice A' (m + 1) c') (m + 1) (pa.flatMap pvE ++ pvE (x, v))) (hg : W.grownBy W2 (Value.slice A m c).ownBlock)
    (hat : (Value.slice A' (m + 1) c').ownBlock = (Value.slice A m c).ownBlock ∨ (Value.slice A' (m + 1) c').ownBlock = some W.heap.size) : Two pt base w W2 (sa ++ [(x, t)]) sb A' (m + 1) c' B n d (pa ++ [(x, v)]) pb := by
  have h := h0.keep0 k
  have kg : Keeps W W2 (ownL (.slice A m c)) := Keeps.ofGrown hg
  have hno : ∀ b, b < W.heap.size → b ∉ ownL (.slice A m c) → b ∉ ownL (.slice A' (m + 1) c') := fun b hb hn hm => by
    unfold ownL at hn hm
    simp only [Option.mem_toList] at hn hm
    rcases hat with h1 | h1
    · rw [h1] at hm; exact hn hm
    · rw [h1] at hm; simp at hm; omega
  have ht' : Tr W (fun b => b ∉ ownL (.slice A m c) ∧ b ∉ ownL (.slice B n d)) t v := ht.mono fun b hb => ⟨fun hm => by have := (own_lt h0.oa hm).2; omega, fun hm => by have := (own_lt h0.ob hm).2; omega⟩
  have mv : ∀ {s : Sbt} {p : List (Int × TV)}, Prs W (fun b => b ∉ ownL (.slice A m c) ∧ b ∉ ownL (.slice B n d)) s p → Prs W2 (fun b => b ∉ ownL (.slice A' (m + 1) c') ∧ b ∉ ownL (.slice B n d)) s p := fun hp =>
    (hp.here.keepL kg (fun b hb hh => hh.1.1 hb)).mono fun b hb => ⟨hno b hb.2 hb.1.1, hb.1.2⟩
  refine ⟨by rw [List.flatMap_append]; simpa using ho, own_keepL h.ob kg (fun b hb hm => h.ne b hb hm), ?_, mv h.rb, fun b hb hm => ?_, ?_, h.low⟩
  · exact (mv h.ra).snoc ((ht'.here.keepL kg (fun b hb hh => hh.1.1 hb)).mono fun b hb => ⟨hno b hb.2 hb.1.1, hb.1.2⟩)
  · have hmB := own_lt h.ob hm
    exact hno b hmB.2 (fun hA => h.ne b hA hm) hb
  · exact ⟨kg.os.trans h.keep.os, kg.tape.trans h.keep.tape, kg.output.trans h.keep.output, Nat.le_trans h.keep.size kg.size, fun i hi _ => (kg.block i (Nat.lt_of_lt_of_le hi h.keep.size) (fun hm => by have := (own_lt h.oa hm).1; have := h.low; omega)).trans (h.keep.block i hi (by simp))⟩
theorem Two.sub (h : Two pt base w wr sa sb A m c B n d pa pb) : Sub wr (fun _ => True) sa A := ⟨⟨pa, h.ra.mono fun _ _ => trivial, Rd.of_own h.oa⟩⟩
end
end Go.Proofs.YtnonfmaehfmigaaGreatDoor
