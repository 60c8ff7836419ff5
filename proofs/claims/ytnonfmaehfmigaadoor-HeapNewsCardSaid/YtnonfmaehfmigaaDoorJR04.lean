/- Variables become names: the law's ground. Printed by gen_mgground.py. -/
import Derived.Test.YtnonfmaehfmigaaDoorJR03
import Derived.Test.YtnonfmaehfmigaaDoorJR01
import Derived.BigRegion
import Derived.BigQuiet
import Derived.Deep.QuietTactic
import Derived.RegionTactic
import Derived.Deep.RegionLaw
import Derived.Deep.RegionWith
import Derived.Maps.OwnSet
namespace Go.Proofs.YtnonfmaehfmigaaDoor
open Go.RowKit

mutual
def tG : Tm → Tm
  | .mk k _ s l => if k = 0 then .mk 1 0 ⟨#[98]⟩ [] else .mk k 0 s (tGs l)
def tGs : List Tm → List Tm
  | [] => []
  | a :: l => tG a :: tGs l
end
theorem tGs_map : ∀ l : List Tm, tGs l = l.map tG
  | [] => by simp [tGs]
  | a :: l => by rw [tGs, tGs_map l]; simp
end Go.Proofs.YtnonfmaehfmigaaDoor

/- Terms made one: what has no variables put in; the plain law of MguMeets. -/
namespace Go.Proofs.YtnonfmaehfmigaaDoor
open Go.RowKit

def Vs6 : List Int := [0, 1, 2, 3, 4, 5]
theorem few6 : Few9 Vs6 := fun v hv => by
  simp only [Vs6, List.mem_cons, List.not_mem_nil, or_false] at hv
  rcases hv with rfl | rfl | rfl | rfl | rfl | rfl <;> omega
theorem mem6 {v : Int} (h0 : 0 ≤ v) (h6 : v < 6) : v ∈ Vs6 := by
  simp only [Vs6, List.mem_cons, List.not_mem_nil, or_false]
  omega
theorem fixT_vars {f : Tm → Int → Tm × Int} (hf : ∀ a n, ∀ v ∈ tV (f a n).1, v ∈ Vs6) (d : Nat) (t : Tm) (left : Int) : ∀ v ∈ tV (fixT f d t left).1, v ∈ Vs6 := by
  cases t with
  | mk k n s l =>
    rw [fixT]
    intro v hv
    simp only at hv
    rw [tV] at hv
    by_cases hk : fixK d left k = 0
    · rw [if_pos hk] at hv
      simp only [List.mem_singleton] at hv
      rw [hv, fixN, if_pos hk]
      have := u64_nonneg n
      exact mem6 (by omega) (by omega)
    · rw [if_neg hk] at hv
      obtain ⟨a, ha, hv⟩ := mem_tVL.1 hv
      obtain ⟨b, m, rfl⟩ := fixes_mem ha
      exact hf b m v hv
theorem tFix_vars : ∀ (d : Nat) (t : Tm) (left : Int), ∀ v ∈ tV (tFix d t left).1, v ∈ Vs6
  | 0, .mk k n s l, left => by
    have h : fixW (fixK 0 left k) n = 0 := (fixW_le _ n).2 ((fixK_range 0 left k).2.2 rfl)
    have := fixT_vars (f := fun _ n => (vr 0, n)) (fun a n v hv => by
      rw [vr, tV, if_pos rfl] at hv
      simp at hv
      subst hv
      exact mem6 (by omega) (by omega)) 0 (.mk k n s l) left
    rw [tFix]
    rw [fixT, h] at this ⊢
    simpa [fixes] using this
  | d + 1, t, left => fixT_vars (tFix_vars d) (d + 1) t left
theorem fixT_dep {f : Tm → Int → Tm × Int} {D : Nat} (hf : ∀ a n, tDep (f a n).1 ≤ D) (d : Nat) (t : Tm) (left : Int) : tDep (fixT f d t left).1 ≤ D + 1 := by
  cases t with
  | mk k n s l =>
    rw [fixT]
    simp only
    rw [tDep]
    have : tDeps (fixes f l (left - 1) (fixW (fixK d left k) n)).1 ≤ D := tDeps_le fun b hb => by
      obtain ⟨a, m, rfl⟩ := fixes_mem hb
      exact hf a m
    omega
theorem tFix_dep : ∀ (d : Nat) (t : Tm) (left : Int), tDep (tFix d t left).1 ≤ d + 1
  | 0, .mk k n s l, left => by
    have h : fixW (fixK 0 left k) n = 0 := (fixW_le _ n).2 ((fixK_range 0 left k).2.2 rfl)
    rw [tFix, fixT, h]
    simp [fixes, tDep, tDeps]
  | d + 1, t, left => fixT_dep (tFix_dep d) (d + 1) t left
theorem lFix_in (t : Tm) : In Vs6 (lFix t) := ⟨lFix_right t, tFix_vars 4 t 30⟩
theorem lFix_dep (t : Tm) : tDep (lFix t) ≤ 5 := tFix_dep 4 t 30
/-- A term without variables. -/
theorem tG_ground (t : Tm) : tV (tG t) = [] := by
  induction t using Tm.ind_ with
  | h k n s l ih =>
    rw [tG]
    by_cases h0 : k = 0
    · rw [if_pos h0, tV, if_neg (by omega), tVL]
    · rw [if_neg h0, tV, if_neg h0, tGs_map]
      refine List.eq_nil_iff_forall_not_mem.2 fun v hv => ?_
      obtain ⟨a, ha, hv⟩ := mem_tVL.1 hv
      obtain ⟨b, hb, rfl⟩ := List.mem_map.1 ha
      rw [ih b hb] at hv
      cases hv
theorem tG_right (t : Tm) : tRight t = true → tRight (tG t) = true := by
  induction t using Tm.ind_ with
  | h k n s l ih =>
    intro h
    rw [tG]
    by_cases h0 : k = 0
    · rw [if_pos h0]; rfl
    · rw [if_neg h0, tGs_map]
      have hn := right_n h h0
      subst hn
      refine right_with h (by simp) fun a ha => ?_
      obtain ⟨b, hb, rfl⟩ := List.mem_map.1 ha
      exact ih b hb (right_parts h b hb)
theorem tG_dep (t : Tm) : tDep (tG t) ≤ tDep t := by
  induction t using Tm.ind_ with
  | h k n s l ih =>
    rw [tG]
    by_cases h0 : k = 0
    · rw [if_pos h0, tDep, tDep, tDeps]; omega
    · rw [if_neg h0, tDep, tDep, tGs_map]
      have : tDeps (l.map tG) ≤ tDeps l := tDeps_le fun a ha => by
        obtain ⟨b, hb, rfl⟩ := List.mem_map.1 ha
        exact Nat.le_trans (ih b hb) (tDeps_mem hb)
      omega
/-- What the law puts in. -/
def Gd (t : Tm) : Tm := tG (lFix t)
theorem Gd_right (t : Tm) : tRight (Gd t) = true := tG_right _ (lFix_right t)
theorem Gd_ground (t : Tm) : tV (Gd t) = [] := tG_ground _
theorem Gd_dep (t : Tm) : tDep (Gd t) ≤ 5 := Nat.le_trans (tG_dep _) (lFix_dep t)
/-- What has no variables is put in. -/
structure GS (s : Sbt) : Prop where
  nd : (s.map (·.1)).Nodup
  rt : ∀ p ∈ s, tRight p.2 = true
  gr : ∀ p ∈ s, tV p.2 = []
def way (s : Sbt) (n : Int) : Tm := (sOf s n).getD (vr n)
theorem GS.si {s : Sbt} (h : GS s) : SI s (way s) (fun _ => 0) := by
  have hno : ∀ m x, sOf s m = some x → tV x = [] := fun m x hx => h.gr _ (sOf_mem hx)
  refine ⟨h.nd, h.rt, fun m hm => by unfold way; rw [hm]; rfl, fun m x hx => ?_, fun m v hv => ?_, fun m x hx v hv => ?_⟩
  · rw [way, hx]
    exact (tS_fix (h.rt _ (sOf_mem hx)) (by rw [hno m x hx]; simp)).symm
  · unfold way at hv
    cases hs : sOf s m with
    | none => rw [hs] at hv; rw [Option.getD_none, vr, tV, if_pos rfl] at hv; simp at hv; subst hv; exact hs
    | some x => rw [hs, Option.getD_some, hno m x hs] at hv; cases hv
  · rw [hno m x hx] at hv; cases hv
theorem GS.ap {s : Sbt} (h : GS s) {t : Tm} (ht : tRight t = true) : apD s deepest t = tS (way s) t := h.si.ap deepest t ht fun v _ _ => by unfold deepest; omega
theorem GS.put_in {s : Sbt} (h : GS s) {t : Tm} (ht : In Vs6 t) (hd : tDep t ≤ 5) (hs : ∀ p ∈ s, tDep p.2 ≤ 5) : In Vs6 (tS (way s) t) ∧ tDep (tS (way s) t) ≤ d0 := by
  have hw : ∀ v, v ∈ Vs6 → tRight (way s v) = true ∧ (∀ u ∈ tV (way s v), u = v) ∧ tDep (way s v) ≤ 5 := fun v hv => by
    unfold way
    cases hs' : sOf s v with
    | none => exact ⟨vr_right (few6 v hv).1 (few6 v hv).2, fun u hu => by rw [Option.getD_none, vr, tV, if_pos rfl] at hu; simpa using hu, by rw [Option.getD_none, vr, tDep, tDeps]; omega⟩
    | some x => exact ⟨h.rt _ (sOf_mem hs'), (fun u hu => by rw [Option.getD_some, h.gr _ (sOf_mem hs')] at hu; cases hu), hs _ (sOf_mem hs')⟩
  refine ⟨⟨right_tS t ht.rt fun v hv => (hw v (ht.vs v hv)).1, fun v hv => ?_⟩, ?_⟩
  · obtain ⟨u, hu, hv⟩ := (mem_tS t).1 hv
    rw [(hw u (ht.vs u hu)).2.1 v hv]
    exact ht.vs u hu
  · have := dep_tS (f := way s) (d := 4) t fun v hv => (hw v (ht.vs v hv)).2.2
    unfold d0
    omega
/-- A way that goes over another. -/
theorem GS.over {s : Sbt} (h : GS s) {f : Int → Tm} (hf : ∀ n x, sOf s n = some x → f n = x) (t : Tm) : tS f (tS (way s) t) = tS f t := by
  rw [tS_comp]
  refine tS_congr t fun n _ => ?_
  unfold way
  cases hs : sOf s n with
  | none => rw [Option.getD_none, vr, tS, if_pos rfl]
  | some x =>
    rw [Option.getD_some, hf n x hs]
    exact tS_fix (h.rt _ (sOf_mem hs)) (by rw [h.gr _ (sOf_mem hs)]; simp)

/-! ### MguMeets -/
def half (b : Nat) (l : List Tm) : Nat → Sbt
  | 0 => []
  | j + 1 => half b l j ++ if j % 2 = b then [((j : Int), Gd (l.getD j tz))] else []
theorem half_key {b : Nat} {l : List Tm} : ∀ {j : Nat} {p : Int × Tm}, p ∈ half b l j → ∃ i : Nat, i < j ∧ i % 2 = b ∧ p = ((i : Int), Gd (l.getD i tz))
  | 0, p, h => by simp [half] at h
  | j + 1, p, h => by
    rw [half] at h
    rcases List.mem_append.1 h with h | h
    · obtain ⟨i, h1, h2, h3⟩ := half_key h
      exact ⟨i, by omega, h2, h3⟩
    · split at h
      · rename_i hb
        simp at h
        exact ⟨j, by omega, hb, h⟩
      · cases h
theorem half_gs (b : Nat) (l : List Tm) : ∀ j : Nat, GS (half b l j) := fun j => by
  refine ⟨?_, fun p hp => ?_, fun p hp => ?_⟩
  · induction j with
    | zero => simp [half]
    | succ j ih =>
      rw [half, List.map_append]
      refine List.nodup_append.2 ⟨ih, ?_, fun x hx y hy e => ?_⟩
      · split <;> simp
      · obtain ⟨p, hp, rfl⟩ := List.mem_map.1 hx
        obtain ⟨i, h1, _, rfl⟩ := half_key hp
        split at hy
        · simp at hy
          omega
        · simp at hy
  · obtain ⟨i, _, _, rfl⟩ := half_key hp
    exact Gd_right _
  · obtain ⟨i, _, _, rfl⟩ := half_key hp
    exact Gd_ground _
theorem half_dep (b : Nat) (l : List Tm) (j : Nat) : ∀ p ∈ half b l j, tDep p.2 ≤ 5 := fun p hp => by
  obtain ⟨i, _, _, rfl⟩ := half_key hp
  exact Gd_dep _
theorem half_len (b : Nat) (l : List Tm) : ∀ j : Nat, (half b l j).length ≤ j
  | 0 => by simp [half]
  | j + 1 => by
    have := half_len b l j
    rw [half, List.length_append]
    split <;> simp <;> omega
/-- Two terms made of one are made one. -/
theorem meets_law (t : Tm) (l : List Tm) (j : Nat) :
    ∃ x y, apD (half 0 l j) deepest (lFix t) = x ∧ apD (half 1 l j) deepest (lFix t) = y ∧ In Vs6 x ∧ In Vs6 y ∧ tDep x ≤ d0 ∧ tDep y ≤ d0 ∧ ∃ fuel s, uRun fuel [(x, y)] [] = some (.ok s) := by
  have h0 := half_gs 0 l j
  have h1 := half_gs 1 l j
  have i0 := h0.put_in (lFix_in t) (lFix_dep t) (half_dep 0 l j)
  have i1 := h1.put_in (lFix_in t) (lFix_dep t) (half_dep 1 l j)
  refine ⟨_, _, h0.ap (lFix_right t), h1.ap (lFix_right t), i0.1, i1.1, i0.2, i1.2, ?_⟩
  obtain ⟨fuel, res, hr, hg⟩ := unify_good few6 (by decide) i0.1 i1.1
  have hdis : ∀ n x y, sOf (half 0 l j) n = some x → sOf (half 1 l j) n = some y → False := fun n x y hx hy => by
    obtain ⟨i, _, h2, h3⟩ := half_key (sOf_mem hx)
    obtain ⟨i', _, h2', h3'⟩ := half_key (sOf_mem hy)
    injection h3 with h3
    injection h3' with h3'
    omega
  have huni : Uni (fun n => ((sOf (half 0 l j) n).or (sOf (half 1 l j) n)).getD (vr n)) [(tS (way (half 0 l j)) (lFix t), tS (way (half 1 l j)) (lFix t))] := by
    intro p hp
    simp at hp
    subst hp
    show tS _ (tS _ _) = tS _ (tS _ _)
    rw [h0.over, h1.over]
    · intro n x hx
      cases hx0 : sOf (half 0 l j) n with
      | none => simp [hx]
      | some y => exact (hdis n y x hx0 hx).elim
    · intro n x hx
      simp [hx]
  cases res with
  | ok s => exact ⟨fuel, s, hr⟩
  | cyc => exact (hg _ (Rs.nil _) huni).elim
  | clash => exact (hg _ (Rs.nil _) huni).elim
end Go.Proofs.YtnonfmaehfmigaaDoor

/- Two rows of pairs that are made side by side. No function in sight. -/
namespace Go.Proofs.YtnonfmaehfmigaaDoor
open Go.RowKit

structure Two (pt : TypeId) (base : Nat) (w wr : World) (sa sb : Sbt) (A : Option Addr) (m c : Nat) (B : Option Addr) (n d : Nat) (pa pb : List (Int × TV)) : Prop where
  oa : wr.ownsRow base pt 5 (.slice A m c) m (pa.flatMap pvE)
  ob : wr.ownsRow base pt 5 (.slice B n d) n (pb.flatMap pvE)
  ra : Prs wr (fun b => b ∉ ownL (.slice A m c) ∧ b ∉ ownL (.slice B n d)) sa pa
  rb : Prs wr (fun b => b ∉ ownL (.slice A m c) ∧ b ∉ ownL (.slice B n d)) sb pb
  ne : ∀ b ∈ ownL (.slice A m c), b ∉ ownL (.slice B n d)
  keep : Keeps w wr []
  low : w.heap.size ≤ base
section
variable {pt : TypeId} {base : Nat} {w wr : World} {sa sb : Sbt} {A B : Option Addr} {m c n d : Nat} {pa pb : List (Int × TV)}
theorem Two.swap (h : Two pt base w wr sa sb A m c B n d pa pb) : Two pt base w wr sb sa B n d A m c pb pa :=
  ⟨h.ob, h.oa, h.rb.mono fun _ hb => ⟨hb.2, hb.1⟩, h.ra.mono fun _ hb => ⟨hb.2, hb.1⟩, fun b hb hm => h.ne b hm hb, h.keep, h.low⟩
theorem Two.start (hk : Keeps w wr []) (hl : w.heap.size ≤ base) : Two pt base w wr [] [] none 0 0 none 0 0 [] [] :=
  ⟨World.ownsRow_nil _ _ _ _, World.ownsRow_nil _ _ _ _, Prs.nil, Prs.nil, by simp [ownL, Value.ownBlock], hk, hl⟩
theorem Two.keep0 (h : Two pt base w wr sa sb A m c B n d pa pb) {W : World} (k : Keeps wr W []) : Two pt base w W sa sb A m c B n d pa pb :=
  ⟨own_keep0 h.oa k, own_keep0 h.ob k, h.ra.keep k, h.rb.keep k, h.ne, h.keep.trans k, h.low⟩
theorem Two.push (h0 : Two pt base w wr sa sb A m c B n d pa pb) {W W2 : World} (k : Keeps wr W []) {x : Int} {t : Tm} {v : TV} (ht : Tr W (fun b => wr.heap.size ≤ b) t v) {A' : Option Addr} {c' : Nat}
    (ho : W2.ownsRow base pt 5 (.slice A' (m + 1) c') (m + 1) (pa.flatMap pvE ++ pvE (x, v))) (hg : W.grownBy W2 (Value.slice A m c).ownBlock)
    (hat : (Value.slice A' (m + 1) c').ownBlock = (Value.slice A m c).ownBlock ∨ (Value.slice A' (m + 1) c').ownBlock = some W.heap.size) : Two pt base w W2 (sa ++ [(x, t)]) sb A' (m + 1) c' B n d (pa ++ [(x, v)]) pb := by
  have h := h0.keep0 k
  have kg : Keeps W W2 (ownL (.slice A m c)) := Keeps.ofGrown hg
  have hno : ∀ b, b < W.heap.size → b ∉ ownL (.slice A m c) → b ∉ ownL (.slice A' (m + 1) c') := fun b hb hn hm => by
    unfold ownL at hn hm
    simp only [Option.mem_toList] at hn hm
    rcases hat with h1 | h1
    · rw [h1] at hm; exact hn hm
    · rw [h1] at hm; simp at hm; omega
  have ht' : Tr W (fun b => b ∉ ownL (.slice A m c) ∧ b ∉ ownL (.slice B n d)) t v := ht.mono fun b hb => ⟨fun hm => by have := (own_lt h0.oa hm).2; omega, fun hm => by have := (own_lt h0.ob hm).2; omega⟩
  have mv : ∀ {s : Sbt} {p : List (Int × TV)}, Prs W (fun b => b ∉ ownL (.slice A m c) ∧ b ∉ ownL (.slice B n d)) s p → Prs W2 (fun b => b ∉ ownL (.slice A' (m + 1) c') ∧ b ∉ ownL (.slice B n d)) s p := fun hp =>
    (hp.here.keepL kg (fun b hb hh => hh.1.1 hb)).mono fun b hb => ⟨hno b hb.2 hb.1.1, hb.1.2⟩
  refine ⟨by rw [List.flatMap_append]; simpa using ho, own_keepL h.ob kg (fun b hb hm => h.ne b hb hm), ?_, mv h.rb, fun b hb hm => ?_, ?_, h.low⟩
  · exact (mv h.ra).snoc ((ht'.here.keepL kg (fun b hb hh => hh.1.1 hb)).mono fun b hb => ⟨hno b hb.2 hb.1.1, hb.1.2⟩)
  · have hmB := own_lt h.ob hm
    exact hno b hmB.2 (fun hA => h.ne b hA hm) hb
  · exact ⟨kg.os.trans h.keep.os, kg.tape.trans h.keep.tape, kg.output.trans h.keep.output, Nat.le_trans h.keep.size kg.size, fun i hi _ => (kg.block i (Nat.lt_of_lt_of_le hi h.keep.size) (fun hm => by have := (own_lt h.oa hm).1; have := h.low; omega)).trans (h.keep.block i hi (by simp))⟩
theorem Two.sub (h : Two pt base w wr sa sb A m c B n d pa pb) : Sub wr (fun _ => True) sa A := ⟨⟨pa, h.ra.mono fun _ _ => trivial, Rd.of_own h.oa⟩⟩
end
end Go.Proofs.YtnonfmaehfmigaaDoor

/- Variables by their first places: the plain law; a row of terms that is made one by one. No function in sight. -/
namespace Go.Proofs.YtnonfmaehfmigaaDoor
open Go.RowKit

mutual
def tRn (f : Int → Int) : Tm → Tm
  | .mk k n s l => .mk k (if k = 0 then f n else n) s (tRns f l)
def tRns (f : Int → Int) : List Tm → List Tm
  | [] => []
  | a :: l => tRn f a :: tRns f l
end
theorem tRns_map (f : Int → Int) : ∀ l : List Tm, tRns f l = l.map (tRn f)
  | [] => by simp [tRns]
  | a :: l => by rw [tRns, tRns_map f l]; simp
theorem tRn_var (f : Int → Int) {k n : Int} (s : ByteArray) (l : List Tm) (h : k = 0) : tRn f (.mk k n s l) = .mk k (f n) s (l.map (tRn f)) := by rw [tRn, if_pos h, tRns_map]
theorem tRn_node (f : Int → Int) {k n : Int} (s : ByteArray) (l : List Tm) (h : k ≠ 0) : tRn f (.mk k n s l) = .mk k n s (l.map (tRn f)) := by rw [tRn, if_neg h, tRns_map]
theorem tRn_congr (t : Tm) : ∀ {f g : Int → Int}, tRight t = true → (∀ n ∈ tV t, f n = g n) → tRn f t = tRn g t := by
  induction t using Tm.ind_ with
  | h k n s l ih =>
    intro f g hr h
    by_cases h0 : k = 0
    · rw [tRn_var f s l h0, tRn_var g s l h0]
      subst h0
      obtain ⟨e, _, _⟩ := right_var hr
      obtain ⟨_, _, _, rfl⟩ := Tm.mk.inj e
      rw [h n (by rw [tV, if_pos rfl]; simp)]
      rfl
    · rw [tRn_node f s l h0, tRn_node g s l h0]
      congr 1
      exact List.map_congr_left fun a ha => ih a ha (right_parts hr a ha) fun m hm => h m (by rw [tV, if_neg h0]; exact mem_tVL.2 ⟨a, ha, hm⟩)
theorem tRn_comp (f g : Int → Int) (t : Tm) : tRn f (tRn g t) = tRn (fun n => f (g n)) t := by
  induction t using Tm.ind_ with
  | h k n s l ih =>
    by_cases h0 : k = 0
    · rw [tRn_var g s l h0, tRn_var _ s _ h0, tRn_var _ s l h0, List.map_map]
      congr 1
      exact List.map_congr_left fun a ha => ih a ha
    · rw [tRn_node g s l h0, tRn_node _ s _ h0, tRn_node _ s l h0, List.map_map]
      congr 1
      exact List.map_congr_left fun a ha => ih a ha
theorem tRn_wid (f : Int → Int) (t : Tm) : tWid t → tWid (tRn f t) := by
  induction t using Tm.ind_ with
  | h k n s l ih =>
    intro h
    rw [tRn, tRns_map, tWid]
    rw [tWid] at h
    refine ⟨by rw [List.length_map]; exact h.1, ?_⟩
    have key : ∀ l : List Tm, (∀ a ∈ l, tWid a → tWid (tRn f a)) → tWids l → tWids (l.map (tRn f)) := by
      intro l
      induction l with
      | nil => exact fun _ h => h
      | cons a l ihl => exact fun h1 h2 => ⟨h1 a (by simp) h2.1, ihl (fun b hb => h1 b (by simp [hb])) h2.2⟩
    exact key l ih h.2
/-- Different numbers stay different. -/
def Inj (f : Int → Int) (Vs : List Int) : Prop := ∀ a ∈ Vs, ∀ b ∈ Vs, f a = f b → a = b
theorem any_map {f : Int → Int} {Vs acc : List Int} (hi : Inj f Vs) (ha : ∀ a ∈ acc, a ∈ Vs) {n : Int} (hn : n ∈ Vs) : (acc.map f).any (hasI (f n)) = acc.any (hasI n) := by
  rw [Bool.eq_iff_iff, any_has, any_has, List.mem_map]
  constructor
  · rintro ⟨a, h1, h2⟩
    have := hi a (ha a h1) n hn h2
    subst this
    exact h1
  · exact fun h => ⟨n, h, rfl⟩
theorem addV_map {f : Int → Int} {Vs acc : List Int} (hi : Inj f Vs) (ha : ∀ a ∈ acc, a ∈ Vs) {n : Int} (hn : n ∈ Vs) : addV (acc.map f) (f n) = (addV acc n).map f := by
  unfold addV
  rw [any_map hi ha hn]
  split
  · rfl
  · rw [List.map_append]; rfl
theorem walk_in {Vs acc : List Int} (ha : ∀ a ∈ acc, a ∈ Vs) {t : Tm} (h : In Vs t) : ∀ a ∈ tWalk acc t, a ∈ Vs := fun a h1 => ((walk_mem t h.rt acc a).1 h1).elim (ha a) (h.vs a)
theorem walks_map_ {f : Int → Int} {Vs : List Int} : ∀ {l : List Tm}, (∀ a ∈ l, ∀ acc, (∀ b ∈ acc, b ∈ Vs) → tWalk (acc.map f) (tRn f a) = (tWalk acc a).map f) → (∀ a ∈ l, In Vs a) → ∀ acc, (∀ b ∈ acc, b ∈ Vs) → tWalks (acc.map f) (l.map (tRn f)) = (tWalks acc l).map f
  | [], _, _, acc, _ => by simp [tWalks]
  | a :: l, ih, hin, acc, ha => by
    rw [List.map_cons, tWalks, tWalks, ih a (by simp) acc ha]
    exact walks_map_ (fun b hb => ih b (by simp [hb])) (fun b hb => hin b (by simp [hb])) _ (walk_in ha (hin a (by simp)))
theorem walk_map {f : Int → Int} {Vs : List Int} (hi : Inj f Vs) (t : Tm) : In Vs t → ∀ acc, (∀ b ∈ acc, b ∈ Vs) → tWalk (acc.map f) (tRn f t) = (tWalk acc t).map f := by
  induction t using Tm.ind_ with
  | h k n s l ih =>
    intro hin acc ha
    by_cases h0 : k = 0
    · subst h0
      obtain ⟨e, _, _⟩ := right_var hin.rt
      obtain ⟨_, _, _, rfl⟩ := Tm.mk.inj e
      rw [tRn_var f s _ rfl, tWalk, tWalk, if_pos rfl, if_pos rfl, List.map_nil, tWalks, tWalks]
      exact addV_map hi ha (hin.vs n (by rw [tV, if_pos rfl]; simp))
    · rw [tRn_node f s l h0, tWalk, tWalk, if_neg h0, if_neg h0]
      exact walks_map_ (fun a hm acc ha => ih a hm (hin.parts h0 a hm) acc ha) (hin.parts h0) acc ha
theorem vars_map {f : Int → Int} {Vs : List Int} (hi : Inj f Vs) {l : List Tm} (hin : ∀ a ∈ l, In Vs a) : tVars (l.map (tRn f)) = (tVars l).map f :=
  walks_map_ (fun a hm acc ha => walk_map hi a (hin a hm) acc ha) hin [] (by simp)
theorem findI_map {f : Int → Int} {Vs acc : List Int} (hi : Inj f Vs) (ha : ∀ a ∈ acc, a ∈ Vs) {n : Int} (hn : n ∈ Vs) : findI (hasI (f n)) (acc.map f) = findI (hasI n) acc := by
  unfold findI
  rw [any_map hi ha hn]
  have : (acc.map f).findIdx (hasI (f n)) = acc.findIdx (hasI n) := by
    rw [List.findIdx_map]
    have : ∀ acc : List Int, (∀ a ∈ acc, a ∈ Vs) → acc.findIdx (hasI (f n) ∘ f) = acc.findIdx (hasI n) := by
      intro acc
      induction acc with
      | nil => intro _; rfl
      | cons a acc ih =>
        intro h
        have e : (hasI (f n) ∘ f) a = hasI n a := by
          unfold hasI
          simp only [Function.comp]
          rw [Bool.eq_iff_iff, beq_iff_eq, beq_iff_eq]
          exact ⟨fun he => hi n hn a (h a (by simp)) he, fun he => by rw [he]⟩
        rw [List.findIdx_cons, List.findIdx_cons, e, ih fun b hb => h b (by simp [hb])]
    exact this acc ha
  rw [this]
/-- A variable's new number. -/
def ren (k : Int) (vars : List Int) (n : Int) : Int := k + findI (hasI n) vars
theorem findI_at {n : Int} {vars : List Int} (h : n ∈ vars) : ∃ i : Nat, findI (hasI n) vars = i ∧ vars[i]? = some n ∧ i < vars.length := by
  have h1 : vars.any (hasI n) = true := any_has.2 h
  refine ⟨vars.findIdx (hasI n), by unfold findI; rw [if_pos h1], ?_, ?_⟩
  · have h2 : vars.findIdx (hasI n) < vars.length := List.findIdx_lt_length_of_exists (by obtain ⟨x, hx, hp⟩ := List.any_eq_true.1 h1; exact ⟨x, hx, hp⟩)
    rw [List.getElem?_eq_getElem h2]
    have h3 := List.findIdx_getElem (w := h2)
    unfold hasI at h3
    rw [beq_iff_eq] at h3
    exact congrArg some h3.symm
  · exact List.findIdx_lt_length_of_exists (by obtain ⟨x, hx, hp⟩ := List.any_eq_true.1 h1; exact ⟨x, hx, hp⟩)
theorem ren_inj (k : Int) (vars : List Int) : Inj (ren k vars) vars := fun a ha b hb he => by
  obtain ⟨i, h1, h2, _⟩ := findI_at ha
  obtain ⟨j, h3, h4, _⟩ := findI_at hb
  unfold ren at he
  rw [h1, h3] at he
  have : i = j := by omega
  subst this
  rw [h2] at h4
  exact Option.some.inj h4
theorem ren_bound (k : Int) (vars : List Int) (n : Int) : k - 1 ≤ ren k vars n ∧ ren k vars n ≤ k + vars.length := by
  unfold ren findI
  split
  · have := List.findIdx_le_length (p := hasI n) (xs := vars)
    omega
  · omega
def rn (k : Int) (l : List Tm) : List Tm := l.map (tRn (ren k (tVars l)))
theorem rn_len (k : Int) (l : List Tm) : (rn k l).length = l.length := by simp [rn]
theorem vars_in {l : List Tm} (hr : ∀ a ∈ l, tRight a = true) : ∀ a ∈ l, In (tVars l) a := fun a ha =>
  ⟨hr a ha, fun v hv => (walks_mem hr [] v).2 (.inr (mem_tVL.2 ⟨a, ha, hv⟩))⟩
/-- Renamed, and named anew: the same. -/
theorem rn_rn (k : Int) {l : List Tm} (hr : ∀ a ∈ l, tRight a = true) : rn 0 (rn k l) = rn 0 l ∧ (tVars (rn k l)).length = (tVars l).length := by
  have hin := vars_in hr
  have hv : tVars (rn k l) = (tVars l).map (ren k (tVars l)) := vars_map (ren_inj k _) hin
  refine ⟨?_, by rw [hv, List.length_map]⟩
  show (rn k l).map (tRn (ren 0 (tVars (rn k l)))) = l.map (tRn (ren 0 (tVars l)))
  rw [hv]
  unfold rn
  rw [List.map_map]
  refine List.map_congr_left fun a ha => ?_
  show tRn _ (tRn _ a) = _
  rw [tRn_comp]
  refine tRn_congr a (hr a ha) fun n hn => ?_
  show 0 + findI (hasI (ren k (tVars l) n)) ((tVars l).map (ren k (tVars l))) = 0 + findI (hasI n) (tVars l)
  rw [findI_map (ren_inj k _) (fun a h => h) ((hin a ha).vs n hn)]
theorem vars_six {Vs : List Int} {l : List Tm} (h : ∀ a ∈ l, In Vs a) : (tVars l).length ≤ Vs.length := by
  refine nodup_len (walks_nodup [] l List.nodup_nil) fun a ha => ?_
  rcases (walks_mem (fun a ha => (h a ha).rt) [] a).1 ha with h1 | h1
  · cases h1
  · obtain ⟨b, hb, h2⟩ := mem_tVL.1 h1
    exact (h b hb).vs a h2

/-- A row of terms that is made one by one. -/
structure LR (tg : TypeId) (w wr : World) (l : List Tm) (us : List TV) (A : Option Addr) (j c : Nat) : Prop where
  own : wr.ownsRow w.heap.size tg 4 (.slice A j c) j (us.flatMap tvE)
  trs : Trs wr (fun b => b ∉ ownL (.slice A j c)) l us
  len : l.length = j
  keep : Keeps w wr []
section
variable {tg : TypeId} {w wr : World} {l : List Tm} {us : List TV} {A : Option Addr} {j c : Nat}
theorem LR.start (tg : TypeId) {w wr : World} (k : Keeps w wr []) : LR tg w wr [] [] none 0 0 := ⟨World.ownsRow_nil _ _ _ _, Trs.nil, rfl, k⟩
theorem LR.keep0 (h : LR tg w wr l us A j c) {W : World} (kk : Keeps wr W []) : LR tg w W l us A j c := ⟨own_keep0 h.own kk, h.trs.keep kk, h.len, h.keep.trans kk⟩
theorem LR.push (h0 : LR tg w wr l us A j c) {W W2 : World} (kk : Keeps wr W []) {t : Tm} {v : TV} (ht : Tr W (fun b => b < w.heap.size ∨ wr.heap.size ≤ b) t v) {A' : Option Addr} {c' : Nat}
    (hown : W2.ownsRow w.heap.size tg 4 (.slice A' (j + 1) c') (j + 1) (us.flatMap tvE ++ tvE v)) (hg : W.grownBy W2 (Value.slice A j c).ownBlock)
    (hat : (Value.slice A' (j + 1) c').ownBlock = (Value.slice A j c).ownBlock ∨ (Value.slice A' (j + 1) c').ownBlock = some W.heap.size) : LR tg w W2 (l ++ [t]) (us ++ [v]) A' (j + 1) c' := by
  have h := h0.keep0 kk
  have kg : Keeps W W2 (ownL (.slice A j c)) := Keeps.ofGrown hg
  have hno : ∀ b, b < W.heap.size → b ∉ ownL (.slice A j c) → b ∉ ownL (.slice A' (j + 1) c') := fun b hb hn hm => by
    unfold ownL at hn hm
    simp only [Option.mem_toList] at hn hm
    rcases hat with h1 | h1
    · rw [h1] at hm; exact hn hm
    · rw [h1] at hm; simp at hm; omega
  have h1 := (h.trs.here.keepL kg (fun b hb h => h.1 hb)).mono (S' := fun b => b ∉ ownL (.slice A' (j + 1) c')) fun b hb => hno b hb.2 hb.1
  have h2 : Tr W (fun b => b ∉ ownL (.slice A j c)) t v := ht.mono fun b hb hm => by
    have := own_lt h0.own hm
    omega
  exact ⟨by rw [List.flatMap_append]; simpa using hown, h1.snoc ((h2.here.keepL kg (fun b hb h => h.1 hb)).mono fun b hb => hno b hb.2 hb.1), by simp [h.len], h.keep.app h.own (Nat.le_refl _) hg⟩
end
/-- A row of terms is told. -/
def LDone (w : World) (l : List Tm) (e : Ending) (w' : World) : Prop := ∃ A c us, e = .returned (.slice A l.length c) ∧ Trs w' (fun _ => True) l us ∧ Rd w' A (us.flatMap tvE) ∧ Keeps w w' []
theorem LR.done {tg : TypeId} {w wr : World} {l : List Tm} {us : List TV} {A : Option Addr} {j c : Nat} (h : LR tg w wr l us A j c) : LDone w l (.returned (.slice A j c)) wr :=
  ⟨A, c, us, by rw [h.len], h.trs.mono fun _ _ => trivial, Rd.of_own h.own, h.keep⟩
end Go.Proofs.YtnonfmaehfmigaaDoor

/- Terms as cells: the plain law of what Build lays. No program in sight. -/
namespace Go.Proofs.YtnonfmaehfmigaaDoor

/-- A heap, as numbers. -/
structure PH where
  cells : List Int
  atoms : List ByteArray
  funs : List (ByteArray × Int)
  vars : Int → Option Int
/-- A thing's number, to which it comes, if it isn't there. -/
def numL {α : Type} [DecidableEq α] (l : List α) (x : α) : List α := if x ∈ l then l else l ++ [x]
def numI {α : Type} [DecidableEq α] (l : List α) (x : α) : Nat := if x ∈ l then l.idxOf x else l.length
theorem numL_at {α : Type} [DecidableEq α] (l : List α) (x : α) : (numL l x)[numI l x]? = some x := by
  unfold numL numI
  by_cases h : x ∈ l
  · rw [if_pos h, if_pos h]
    have h1 := List.idxOf_lt_length_iff.2 h
    rw [List.getElem?_eq_getElem h1, List.getElem_idxOf]
  · rw [if_neg h, if_neg h]
    simp
theorem numL_pre {α : Type} [DecidableEq α] (l : List α) (x : α) : l <+: numL l x := by
  unfold numL
  split
  · exact List.prefix_refl _
  · exact List.prefix_append _ _
theorem numL_len {α : Type} [DecidableEq α] (l : List α) (x : α) : (numL l x).length ≤ l.length + 1 := by
  unfold numL
  split
  · omega
  · simp
theorem numI_lt {α : Type} [DecidableEq α] (l : List α) (x : α) : numI l x < (numL l x).length := (List.getElem?_eq_some_iff.1 (numL_at l x)).1
def putV (f : Int → Option Int) (n p : Int) : Int → Option Int := fun m => if m = n then some p else f m
def layV (H : PH) (n : Int) : PH × Int := match H.vars n with
  | some p => (H, p * 8)
  | none => ({ H with cells := H.cells ++ [(H.cells.length : Int) * 8], vars := putV H.vars n H.cells.length }, (H.cells.length : Int) * 8)
mutual
def lay : PH → Tm → PH × Int
  | H, .mk k n s l =>
    if k = 0 then layV H n
    else if k = 1 then ({ H with atoms := numL H.atoms s }, (numI H.atoms s : Int) * 8 + 2)
    else
      let r := lays H l
      if k = 2 then ({ r.1 with funs := numL r.1.funs (s, (l.length : Int)), cells := r.1.cells ++ ((numI r.1.funs (s, (l.length : Int)) : Int) * 8 + 4) :: r.2 }, (r.1.cells.length : Int) * 8 + 1)
      else ({ r.1 with cells := r.1.cells ++ r.2 }, (r.1.cells.length : Int) * 8 + 3)
def lays : PH → List Tm → PH × List Int
  | H, [] => (H, [])
  | H, a :: l =>
    let r := lay H a
    let q := lays r.1 l
    (q.1, r.2 :: q.2)
end
theorem lays_len : ∀ (H : PH) (l : List Tm), (lays H l).2.length = l.length
  | H, [] => by rw [lays]; rfl
  | H, a :: l => by rw [lays]; simp only [List.length_cons, lays_len _ l]
theorem lays_snoc : ∀ (H : PH) (l : List Tm) (a : Tm), lays H (l ++ [a]) = ((lay (lays H l).1 a).1, (lays H l).2 ++ [(lay (lays H l).1 a).2])
  | H, [], a => by rw [List.nil_append, lays, lays, lays]; rfl
  | H, b :: l, a => by rw [List.cons_append, lays, lays_snoc _ l a, lays]; rfl
/-- More of all. -/
structure PH.le (H H' : PH) : Prop where
  cells : H.cells <+: H'.cells
  atoms : H.atoms <+: H'.atoms
  funs : H.funs <+: H'.funs
  vars : ∀ n p, H.vars n = some p → H'.vars n = some p
theorem PH.le.refl (H : PH) : H.le H := ⟨List.prefix_refl _, List.prefix_refl _, List.prefix_refl _, fun _ _ h => h⟩
theorem PH.le.trans {A B C : PH} (h : A.le B) (k : B.le C) : A.le C := ⟨h.cells.trans k.cells, h.atoms.trans k.atoms, h.funs.trans k.funs, fun n p e => k.vars n p (h.vars n p e)⟩
theorem pre_at {α : Type} {l m : List α} (h : l <+: m) {i : Nat} {x : α} (hx : l[i]? = some x) : m[i]? = some x := by
  obtain ⟨t, rfl⟩ := h
  rw [List.getElem?_append_left (List.getElem?_eq_some_iff.1 hx).1]
  exact hx
/-- What a cell means. -/
inductive Rp (H : PH) : Int → Tm → Prop
  | var (p : Nat) (h : H.cells[p]? = some ((p : Int) * 8)) : Rp H ((p : Int) * 8) (vr p)
  | con (i : Nat) (s : ByteArray) (h : H.atoms[i]? = some s) : Rp H ((i : Int) * 8 + 2) (.mk 1 0 s [])
  | lis (p : Nat) (l : List Tm) (cs : List Int) (hl : l.length = 2) (hcs : cs.length = l.length) (ha : ∀ (j : Nat) c, cs[j]? = some c → H.cells[p + j]? = some c) (h : ∀ (j : Nat) t c, l[j]? = some t → cs[j]? = some c → Rp H c t) : Rp H ((p : Int) * 8 + 3) (.mk 3 0 ⟨#[]⟩ l)
  | str (p i : Nat) (s : ByteArray) (l : List Tm) (cs : List Int) (hl : l ≠ []) (hf : H.cells[p]? = some ((i : Int) * 8 + 4)) (hi : H.funs[i]? = some (s, (l.length : Int))) (hcs : cs.length = l.length) (ha : ∀ (j : Nat) c, cs[j]? = some c → H.cells[p + 1 + j]? = some c) (h : ∀ (j : Nat) t c, l[j]? = some t → cs[j]? = some c → Rp H c t) : Rp H ((p : Int) * 8 + 1) (.mk 2 0 s l)
theorem Rp.mono {H H' : PH} (hle : H.le H') {c : Int} {t : Tm} (h : Rp H c t) : Rp H' c t := by
  induction h with
  | var p h => exact .var p (pre_at hle.cells h)
  | con i s h => exact .con i s (pre_at hle.atoms h)
  | lis p l cs hl hcs ha h ih => exact .lis p l cs hl hcs (fun j c hc => pre_at hle.cells (ha j c hc)) ih
  | str p i s l cs hl hf hi hcs ha h ih => exact .str p i s l cs hl (pre_at hle.cells hf) (pre_at hle.funs hi) hcs (fun j c hc => pre_at hle.cells (ha j c hc)) ih
/-- Variables have places of their own. -/
structure VI (H : PH) : Prop where
  at_ : ∀ n p, H.vars n = some p → ∃ q : Nat, p = q ∧ H.cells[q]? = some ((q : Int) * 8)
  inj : ∀ n m p, H.vars n = some p → H.vars m = some p → n = m
/-- A variable's place. -/
def plc (H : PH) (n : Int) : Int := (H.vars n).getD 0
theorem layV_ok {H : PH} (v : VI H) (n : Int) : H.le (layV H n).1 ∧ VI (layV H n).1 ∧ Rp (layV H n).1 (layV H n).2 (vr (plc (layV H n).1 n)) ∧ (layV H n).1.vars n ≠ none := by
  unfold layV
  cases hv : H.vars n with
  | some p =>
    obtain ⟨q, rfl, hq⟩ := v.at_ n p hv
    have hp : plc H n = q := by unfold plc; rw [hv]; rfl
    simp only
    rw [hp]
    exact ⟨PH.le.refl H, v, .var q hq, by rw [hv]; simp⟩
  | none =>
    simp only
    have hc : (H.cells ++ [(H.cells.length : Int) * 8])[H.cells.length]? = some ((H.cells.length : Int) * 8) := by simp
    have hlt : ∀ m p, H.vars m = some p → p ≠ (H.cells.length : Int) := fun m p hm => by
      obtain ⟨q, rfl, hq⟩ := v.at_ m p hm
      have := (List.getElem?_eq_some_iff.1 hq).1
      omega
    refine ⟨⟨List.prefix_append _ _, List.prefix_refl _, List.prefix_refl _, fun m p hm => ?_⟩, ⟨fun m p hm => ?_, fun m m' p hm hm' => ?_⟩, ?_, ?_⟩
    · show putV H.vars n _ m = some p
      unfold putV
      rw [if_neg (by rintro rfl; rw [hv] at hm; cases hm)]
      exact hm
    · replace hm : putV H.vars n _ m = some p := hm
      unfold putV at hm
      split at hm
      · exact ⟨H.cells.length, (Option.some.inj hm).symm, hc⟩
      · obtain ⟨q, e, hq⟩ := v.at_ m p hm
        exact ⟨q, e, pre_at (List.prefix_append _ _) hq⟩
    · replace hm : putV H.vars n _ m = some p := hm
      replace hm' : putV H.vars n _ m' = some p := hm'
      unfold putV at hm hm'
      split at hm <;> split at hm'
      · rename_i a b; rw [a, b]
      · have := Option.some.inj hm; exact absurd this.symm (hlt m' p hm')
      · have := Option.some.inj hm'; exact absurd this.symm (hlt m p hm)
      · exact v.inj m m' p hm hm'
    · have hp : plc { H with cells := H.cells ++ [(H.cells.length : Int) * 8], vars := putV H.vars n H.cells.length } n = (H.cells.length : Int) := by unfold plc putV; simp
      rw [hp]
      exact .var _ hc
    · show putV H.vars n _ n ≠ none
      unfold putV
      simp
/-- What is laid means what it was, but for variables' numbers. -/
def LayOk (H : PH) (t : Tm) : Prop := H.le (lay H t).1 ∧ VI (lay H t).1 ∧ (∀ n ∈ tV t, (lay H t).1.vars n ≠ none) ∧ Rp (lay H t).1 (lay H t).2 (tRn (plc (lay H t).1) t)
theorem plc_mono {H H' : PH} (h : H.le H') {n : Int} (hn : H.vars n ≠ none) : plc H' n = plc H n := by
  cases hv : H.vars n with
  | none => exact absurd hv hn
  | some p => unfold plc; rw [h.vars n p hv, hv]
theorem vars_mono {H H' : PH} (h : H.le H') {n : Int} (hn : H.vars n ≠ none) : H'.vars n ≠ none := by
  cases hv : H.vars n with
  | none => exact absurd hv hn
  | some p => rw [h.vars n p hv]; simp
theorem lays_ok : ∀ (l : List Tm), (∀ a ∈ l, ∀ H, VI H → LayOk H a) → (∀ a ∈ l, tRight a = true) → ∀ H, VI H → H.le (lays H l).1 ∧ VI (lays H l).1 ∧ (∀ n ∈ tVL l, (lays H l).1.vars n ≠ none) ∧ ∀ (j : Nat) t, l[j]? = some t → ∃ c, (lays H l).2[j]? = some c ∧ Rp (lays H l).1 c (tRn (plc (lays H l).1) t)
  | [], _, _, H, v => by rw [lays]; exact ⟨PH.le.refl H, v, fun n hn => by simp [tVL] at hn, fun j t h => by simp at h⟩
  | a :: l, ih, hr, H, v => by
    obtain ⟨h1, h2, h3, h4⟩ := ih a (by simp) H v
    obtain ⟨g1, g2, g3, g4⟩ := lays_ok l (fun b hb => ih b (by simp [hb])) (fun b hb => hr b (by simp [hb])) _ h2
    rw [lays]
    refine ⟨h1.trans g1, g2, fun n hn => ?_, fun j t hj => ?_⟩
    · rw [tVL, List.mem_append] at hn
      rcases hn with hn | hn
      · exact vars_mono g1 (h3 n hn)
      · exact g3 n hn
    · cases j with
      | zero =>
        simp only [List.getElem?_cons_zero, Option.some.injEq] at hj
        subst hj
        refine ⟨_, rfl, ?_⟩
        have h5 := h4.mono g1
        rw [tRn_congr a (g := plc (lays (lay H a).1 l).1) (hr a (by simp)) (fun n hn => (plc_mono g1 (h3 n hn)).symm)] at h5
        exact h5
      | succ j => exact g4 j t (by simpa using hj)
theorem lay_ok (t : Tm) : tRight t = true → ∀ H, VI H → LayOk H t := by
  induction t using Tm.ind_ with
  | h k n s l ih =>
    intro hr H v
    unfold LayOk
    rw [lay]
    by_cases h0 : k = 0
    · subst h0
      rw [if_pos rfl]
      obtain ⟨h1, h2, h3, h4⟩ := layV_ok v n
      refine ⟨h1, h2, fun m hm => ?_, ?_⟩
      · rw [tV, if_pos rfl] at hm
        simp at hm
        subst hm
        exact h4
      · obtain ⟨e, _, _⟩ := right_var hr
        obtain ⟨_, _, rfl, rfl⟩ := Tm.mk.inj e
        rw [tRn_var _ _ _ rfl]
        exact h3
    · rw [if_neg h0]
      by_cases h1 : k = 1
      · subst h1
        rw [if_pos rfl]
        have hn := right_n hr h0
        have hl : l = [] := by
          rw [tRight, Bool.and_eq_true] at hr
          obtain ⟨_, hr⟩ := hr
          simp at hr
          exact hr.2
        subst hn hl
        refine ⟨⟨List.prefix_refl _, numL_pre _ _, List.prefix_refl _, fun _ _ h => h⟩, ⟨v.at_, v.inj⟩, fun m hm => by rw [tV, if_neg h0] at hm; simp [tVL] at hm, ?_⟩
        rw [tRn_node _ _ _ h0]
        exact .con _ s (numL_at _ _)
      · rw [if_neg h1]
        obtain ⟨g1, g2, g3, g4⟩ := lays_ok l (fun a ha H v => ih a ha (right_parts hr a ha) H v) (right_parts hr) H v
        have hll := lays_len H l
        have hn := right_n hr h0
        subst hn
        simp only
        generalize lays H l = r at g1 g2 g3 g4 hll ⊢
        by_cases h2 : k = 2
        · subst h2
          rw [if_pos rfl]
          have hne : l ≠ [] := by
            rw [tRight, Bool.and_eq_true] at hr
            obtain ⟨_, hr⟩ := hr
            simp at hr
            rintro rfl
            simp at hr
          have hle : r.1.le { r.1 with funs := numL r.1.funs (s, (l.length : Int)), cells := r.1.cells ++ ((numI r.1.funs (s, (l.length : Int)) : Int) * 8 + 4) :: r.2 } := ⟨List.prefix_append _ _, List.prefix_refl _, numL_pre _ _, fun _ _ h => h⟩
          have hvi : VI { r.1 with funs := numL r.1.funs (s, (l.length : Int)), cells := r.1.cells ++ ((numI r.1.funs (s, (l.length : Int)) : Int) * 8 + 4) :: r.2 } := ⟨fun n p h => by obtain ⟨q, e, hq⟩ := g2.at_ n p h; exact ⟨q, e, pre_at (List.prefix_append _ _) hq⟩, g2.inj⟩
          refine ⟨g1.trans hle, hvi, fun m hm => g3 m (by rw [tV, if_neg h0] at hm; exact hm), ?_⟩
          rw [tRn_node _ _ _ h0]
          refine .str r.1.cells.length (numI r.1.funs (s, (l.length : Int))) s (l.map _) r.2 (by simpa using hne) (by simp) (by rw [List.length_map]; exact numL_at _ _) (by rw [List.length_map]; exact hll) (fun j c hc => ?_) fun j t c hj hc => ?_
          · show (r.1.cells ++ _ :: r.2)[r.1.cells.length + 1 + j]? = some c
            rw [List.getElem?_append_right (by omega), show r.1.cells.length + 1 + j - r.1.cells.length = j + 1 by omega, List.getElem?_cons_succ]
            exact hc
          · rw [List.getElem?_map] at hj
            cases ha : l[j]? with
            | none => rw [ha] at hj; cases hj
            | some a =>
              rw [ha] at hj
              simp only [Option.map_some, Option.some.injEq] at hj
              subst hj
              obtain ⟨c', hc', hrp⟩ := g4 j a ha
              rw [hc] at hc'
              obtain rfl := Option.some.inj hc'
              exact hrp.mono hle
        · rw [if_neg h2]
          have h3 : k = 3 ∧ s = ⟨#[]⟩ ∧ l.length = 2 := by
            rw [tRight, Bool.and_eq_true, if_neg h0, if_neg h1, if_neg h2] at hr
            obtain ⟨_, hr⟩ := hr
            split at hr
            · rename_i h3
              simp only [Bool.and_eq_true, decide_eq_true_eq] at hr
              refine ⟨h3, ?_, hr.2⟩
              cases s with
              | mk d => congr; exact Array.eq_empty_of_size_eq_zero hr.1.2
            · cases hr
          obtain ⟨rfl, rfl, hl2⟩ := h3
          have hle : r.1.le { r.1 with cells := r.1.cells ++ r.2 } := ⟨List.prefix_append _ _, List.prefix_refl _, List.prefix_refl _, fun _ _ h => h⟩
          have hvi : VI { r.1 with cells := r.1.cells ++ r.2 } := ⟨fun n p h => by obtain ⟨q, e, hq⟩ := g2.at_ n p h; exact ⟨q, e, pre_at (List.prefix_append _ _) hq⟩, g2.inj⟩
          refine ⟨g1.trans hle, hvi, fun m hm => g3 m (by rw [tV, if_neg h0] at hm; exact hm), ?_⟩
          rw [tRn_node _ _ _ h0]
          refine .lis r.1.cells.length (l.map _) r.2 (by simpa using hl2) (by rw [List.length_map]; exact hll) (fun j c hc => ?_) fun j t c hj hc => ?_
          · show (r.1.cells ++ r.2)[r.1.cells.length + j]? = some c
            rw [List.getElem?_append_right (by omega), show r.1.cells.length + j - r.1.cells.length = j by omega]
            exact hc
          · rw [List.getElem?_map] at hj
            cases ha : l[j]? with
            | none => rw [ha] at hj; cases hj
            | some a =>
              rw [ha] at hj
              simp only [Option.map_some, Option.some.injEq] at hj
              subst hj
              obtain ⟨c', hc', hrp⟩ := g4 j a ha
              rw [hc] at hc'
              obtain rfl := Option.some.inj hc'
              exact hrp.mono hle
/-! ### Places that are there, whatever stands in them -/
structure VB (H : PH) : Prop where
  at_ : ∀ n p, H.vars n = some p → ∃ q : Nat, p = q ∧ q < H.cells.length
theorem VI.vb {H : PH} (v : VI H) : VB H := ⟨fun n p h => by
  obtain ⟨q, e, hq⟩ := v.at_ n p h
  exact ⟨q, e, (List.getElem?_eq_some_iff.1 hq).1⟩⟩
theorem VB.more {H : PH} (v : VB H) {cs : List Int} (h : H.cells <+: cs) {A : List ByteArray} {F : List (ByteArray × Int)} : VB { H with cells := cs, atoms := A, funs := F } := ⟨fun n p hp => by
  obtain ⟨q, e, hq⟩ := v.at_ n p hp
  have := h.length_le
  exact ⟨q, e, by show q < cs.length; omega⟩⟩
theorem layVB_ok {H : PH} (v : VB H) (n : Int) : H.le (layV H n).1 ∧ VB (layV H n).1 := by
  unfold layV
  cases hv : H.vars n with
  | some p => exact ⟨PH.le.refl H, v⟩
  | none =>
    refine ⟨⟨List.prefix_append _ _, List.prefix_refl _, List.prefix_refl _, fun m p hm => ?_⟩, ⟨fun m p hm => ?_⟩⟩
    · show putV H.vars n _ m = some p
      unfold putV
      rw [if_neg (by rintro rfl; rw [hv] at hm; cases hm)]
      exact hm
    · replace hm : putV H.vars n _ m = some p := hm
      unfold putV at hm
      split at hm
      · exact ⟨H.cells.length, (Option.some.inj hm).symm, by simp⟩
      · obtain ⟨q, e, hq⟩ := v.at_ m p hm
        exact ⟨q, e, by simp; omega⟩
theorem laysB_ok : ∀ (l : List Tm), (∀ a ∈ l, ∀ H, VB H → H.le (lay H a).1 ∧ VB (lay H a).1) → ∀ H, VB H → H.le (lays H l).1 ∧ VB (lays H l).1
  | [], _, H, v => by rw [lays]; exact ⟨PH.le.refl H, v⟩
  | a :: l, ih, H, v => by
    obtain ⟨h1, h2⟩ := ih a (by simp) H v
    obtain ⟨g1, g2⟩ := laysB_ok l (fun b hb => ih b (by simp [hb])) _ h2
    rw [lays]
    exact ⟨h1.trans g1, g2⟩
theorem layB_ok (t : Tm) : ∀ H, VB H → H.le (lay H t).1 ∧ VB (lay H t).1 := by
  induction t using Tm.ind_ with
  | h k n s l ih =>
    intro H v
    rw [lay]
    split
    · exact layVB_ok v n
    · split
      · exact ⟨⟨List.prefix_refl _, numL_pre _ _, List.prefix_refl _, fun _ _ h => h⟩, ⟨v.at_⟩⟩
      · obtain ⟨g1, g2⟩ := laysB_ok l ih H v
        simp only
        split
        · exact ⟨g1.trans ⟨List.prefix_append _ _, List.prefix_refl _, numL_pre _ _, fun _ _ h => h⟩, g2.more (List.prefix_append _ _)⟩
        · exact ⟨g1.trans ⟨List.prefix_append _ _, List.prefix_refl _, List.prefix_refl _, fun _ _ h => h⟩, g2.more (List.prefix_append _ _)⟩
end Go.Proofs.YtnonfmaehfmigaaDoor

/- The contracts of package area: a row of cells with an end. -/
namespace Go.Proofs.YtnonfmaehfmigaaDoor
open Go.RowKit

/-- May it be a cell? -/
def right (c : Int) : Bool := decide (c % 8 ≤ 4) && decide (c / 8 < 1099511627776)

set_option maxHeartbeats 400000 in
theorem right_any (c : Int) (w : World) (h0 : 0 ≤ c) (h1 : c < 18446744073709551616) : Calls Tryd.prog 42 #[.int .u64 c] w fun e w' => e = .returned (.bool (right c)) ∧ w = w' := by
  by_cases ha : c % 8 ≤ 4
  · by_cases hb : c / 8 < 1099511627776
    · have hr : right c = true := by simp [right, ha, hb]
      have HR := Lib.hid hr
      have da : decide (c % 8 ≤ 4) = true := by simpa using ha
      have db : decide (c / 8 < 1099511627776) = true := by simpa using hb
      clear hr
      go_enter Tryd.func42, Tryd.ntmps42
      go_wp2_with fail
      go_ret
      exact ⟨by rw [HR.out]; rfl, rfl⟩
    · have hr : right c = false := by simp [right, hb]
      have HR := Lib.hid hr
      have da : decide (c % 8 ≤ 4) = true := by simpa using ha
      have db : decide (c / 8 < 1099511627776) = false := by simpa using hb
      clear hr
      go_enter Tryd.func42, Tryd.ntmps42
      go_wp2_with fail
      go_ret
      exact ⟨by rw [HR.out]; rfl, rfl⟩
  · have hr : right c = false := by simp [right, ha]
    have HR := Lib.hid hr
    have da : decide (c % 8 ≤ 4) = false := by simpa using ha
    clear hr
    go_enter Tryd.func42, Tryd.ntmps42
    go_wp2_with fail
    go_ret
    exact ⟨by rw [HR.out]; rfl, rfl⟩

/-- An Area behind a pointer: its block g, its cells in block h. -/
structure Ar (w : World) (base g h : Nat) (l : List Int) (room : Nat) : Prop where
  blk : ∃ cap, Blk w g 114 #[.slice (some ⟨h, 0, none⟩) l.length cap, .int .i64 room] ∧ w.ownsRow base 28 1 (.slice (some ⟨h, 0, none⟩) l.length cap) l.length (l.map (Value.int .u64)) ∧ room ≤ cap
  low : base ≤ g
  fits : l.length ≤ room
  most : room ≤ 65536
  bytes : ∀ x ∈ l, 0 ≤ x ∧ x < 18446744073709551616

theorem Ar.lt {w : World} {base g h : Nat} {l : List Int} {room : Nat} (a : Ar w base g h l room) : g < w.heap.size ∧ h < w.heap.size ∧ g ≠ h ∧ base ≤ h := by
  obtain ⟨cap, hb, ho, _⟩ := a.blk
  obtain ⟨cur, hc, _, _, _, hh⟩ := own_block ho
  exact ⟨hb.lt, hc.lt, hb.ne_ hc (by decide), hh⟩
theorem Ar.keep {w w' : World} {S : List Nat} {base g h : Nat} {l : List Int} {room : Nat} (a : Ar w base g h l room) (k : Keeps w w' S) (hg : g ∉ S) (hh : h ∉ S) : Ar w' base g h l room := by
  obtain ⟨cap, hb, ho, hc⟩ := a.blk
  exact ⟨⟨cap, hb.keep k hg, own_keep ho k hh, hc⟩, a.low, a.fits, a.most, a.bytes⟩
theorem Ar.drew {w : World} {base g h : Nat} {l : List Int} {room : Nat} (a : Ar w base g h l room) : Ar w.drew base g h l room := by
  obtain ⟨cap, hb, ho, hc⟩ := a.blk
  exact ⟨⟨cap, hb.drew, ho.drew, hc⟩, a.low, a.fits, a.most, a.bytes⟩
theorem Ar.drewN {w : World} {base g h : Nat} {l : List Int} {room : Nat} (a : Ar w base g h l room) (n : Nat) : Ar (w.drewN n) base g h l room :=
  a.keep (Keeps.drewN (Keeps.refl w []) n) (by simp) (by simp)

/-! ### A receiver that isn't there -/
set_option maxHeartbeats 400000 in
theorem free_nil (w : World) : Calls Tryd.prog 77 #[.pointer none] w fun e w' => e = .returned (.int .i64 0) ∧ w = w' := by
  go_enter Tryd.func77, Tryd.ntmps77
  go_wp2_with fail
  go_ret
  exact ⟨rfl, rfl⟩
set_option maxHeartbeats 400000 in
theorem top_nil (w : World) : Calls Tryd.prog 37 #[.pointer none] w fun e w' => e = .returned (.int .i64 0) ∧ w = w' := by
  go_enter Tryd.func37, Tryd.ntmps37
  go_wp2_with fail
  go_ret
  exact ⟨rfl, rfl⟩
set_option maxHeartbeats 400000 in
theorem has_nil (i : Int) (w : World) : Calls Tryd.prog 76 #[.pointer none, .int .i64 i] w fun e w' => e = .returned (.bool false) ∧ w = w' := by
  go_enter Tryd.func76, Tryd.ntmps76
  go_wp2_with fail
  go_ret
  exact ⟨rfl, rfl⟩
set_option maxHeartbeats 400000 in
theorem push_nil (c : Int) (w : World) : Calls Tryd.prog 52 #[.pointer none, .int .u64 c] w fun e w' => e = .returned (.bool false) ∧ w = w' := by
  go_enter Tryd.func52, Tryd.ntmps52
  go_wp2_with fail
  refine (free_nil _).mono ?_
  rintro e w' ⟨rfl, rfl⟩
  go_wp2_with fail
  go_ret
  exact ⟨rfl, rfl⟩
set_option maxHeartbeats 400000 in
theorem get_nil (i : Int) (w : World) : Calls Tryd.prog 44 #[.pointer none, .int .i64 i] w fun e w' => e = .returned (.tuple #[.int .u64 0, .bool false]) ∧ w = w' := by
  go_enter Tryd.func44, Tryd.ntmps44
  go_wp2_with fail
  refine (has_nil _ _).mono ?_
  rintro e w' ⟨rfl, rfl⟩
  go_wp2_with fail
  go_ret2
  exact ⟨rfl, rfl⟩
set_option maxHeartbeats 400000 in
theorem set_nil (i c : Int) (w : World) : Calls Tryd.prog 48 #[.pointer none, .int .i64 i, .int .u64 c] w fun e w' => e = .returned (.bool false) ∧ w = w' := by
  go_enter Tryd.func48, Tryd.ntmps48
  go_wp2_with fail
  refine (has_nil _ _).mono ?_
  rintro e w' ⟨rfl, rfl⟩
  go_wp2_with fail
  go_ret
  exact ⟨rfl, rfl⟩
set_option maxHeartbeats 400000 in
theorem cut_nil (n : Int) (w : World) : Calls Tryd.prog 41 #[.pointer none, .int .i64 n] w fun e w' => e = .returned (.bool false) ∧ w = w' := by
  go_enter Tryd.func41, Tryd.ntmps41
  go_wp2_with fail
  go_ret
  exact ⟨rfl, rfl⟩
set_option maxHeartbeats 400000 in
theorem cells_nil (w : World) : Calls Tryd.prog 54 #[.pointer none] w fun e w' => e = .returned (.slice none 0 0) ∧ w = w' := by
  go_enter Tryd.func54, Tryd.ntmps54
  go_wp2_with fail
  go_ret
  exact ⟨rfl, rfl⟩

/-! ### New -/
theorem info_cell : (Tryd.prog.info? 28).map (fun i => (i.zero, i.size, i.bytes)) = some (some (.int .u64 0), 1, 8) := by kernel_rfl
set_option maxHeartbeats 400000 in
theorem new_no (room : Int) (w : World) (h : room < 0 ∨ 65536 < room) : Calls Tryd.prog 56 #[.int .i64 room] w fun e w' => e = .returned (.tuple #[.pointer none, .int .i64 1]) ∧ w = w' := by
  rcases h with h | h
  · have d : decide (room < 0) = true := by simpa using h
    go_enter Tryd.func56, Tryd.ntmps56
    go_wp2_with fail
    go_ret2
    exact ⟨rfl, rfl⟩
  · have d : decide (room < 0) = false := by simp; omega
    have d2 : decide (65536 < room) = true := by simpa using h
    go_enter Tryd.func56, Tryd.ntmps56
    go_wp2_with fail
    go_ret2
    exact ⟨rfl, rfl⟩
/-- What New leaves, where there is an Area. -/
def NewAr (w : World) (room : Nat) (e : Ending) (w' : World) : Prop :=
  ∃ g h, e = .returned (.tuple #[.pointer (some ⟨g, 0, none⟩), .int .i64 0]) ∧ Ar w' w.heap.size g h [] room ∧ Below w.heap.size w w'
set_option maxHeartbeats 400000 in
theorem new_yes (room : Nat) (w : World) (h : room ≤ 65536) : Calls Tryd.prog 56 #[.int .i64 room] w (NewAr w room) := by
  obtain ⟨i0, hi, hz0, hz1, hz2⟩ := info_parts info_cell
  have d : decide ((room : Int) < 0) = false := by simp
  have d2 : decide (65536 < (room : Int)) = false := by simp; omega
  have hbytes : i0.bytes * room ≤ 281474976710656 := by rw [hz2]; omega
  have HB := Lib.hid hbytes
  clear hbytes
  go_enter Tryd.func56, Tryd.ntmps56
  go_wp2_with (at_make; refine wpList_make_own _ rfl _ _ _ rfl w.heap.size 28 i0 (.int .u64 0) 1 Tryd.underlying56 hi hz0 hz1 .i64 .i64 room room rfl rfl rfl HB.out (by simp only [maxLen]; omega) (Nat.le_refl _) ?_; intro w1 hown hgrow)
  go_ret2
  refine ⟨w1.heap.size, w.heap.size, rfl, ⟨⟨room, Blk.new _ _ _, hown.alloc _, Nat.le_refl _⟩, hgrow.size, Nat.zero_le _, h, by simp⟩, ?_⟩
  exact (((Below.refl _ _).grown hgrow (Nat.le_refl _) (fun k hk => by cases hk)).alloc hgrow.size _)

/-! ### An Area that is there -/
section
variable {w : World} {base g h : Nat} {l : List Int} {room : Nat}
set_option maxHeartbeats 400000 in
theorem free_any (a : Ar w base g h l room) : Calls Tryd.prog 77 #[.pointer (some ⟨g, 0, none⟩)] w fun e w' => e = .returned (.int .i64 ((room : Int) - l.length)) ∧ w.drew = w' := by
  obtain ⟨cap, hb, _, _⟩ := a.blk
  have hf := a.fits
  have hm := a.most
  have c0 : w.cell? ⟨g, 0, none⟩ = some (.slice (some ⟨h, 0, none⟩) l.length cap) := hb.cell 0
  have c1 : w.cell? ⟨g, 1, none⟩ = some (.int .i64 room) := hb.cell 1
  clear hb a
  go_enter Tryd.func77, Tryd.ntmps77
  go_wp2_with fail
  go_region
  go_wp2_with fail
  go_ret
  exact ⟨rfl, rfl⟩
set_option maxHeartbeats 400000 in
theorem atop_any (a : Ar w base g h l room) : Calls Tryd.prog 37 #[.pointer (some ⟨g, 0, none⟩)] w fun e w' => e = .returned (.int .i64 l.length) ∧ w = w' := by
  obtain ⟨cap, hb, _, _⟩ := a.blk
  have c0 : w.cell? ⟨g, 0, none⟩ = some (.slice (some ⟨h, 0, none⟩) l.length cap) := hb.cell 0
  clear hb a
  go_enter Tryd.func37, Tryd.ntmps37
  go_wp2_with fail
  go_ret
  exact ⟨rfl, rfl⟩
def inside (i : Int) (n : Nat) : Bool := decide (0 ≤ i) && decide (i < n)
set_option maxHeartbeats 400000 in
theorem has_any (a : Ar w base g h l room) (i : Int) : Calls Tryd.prog 76 #[.pointer (some ⟨g, 0, none⟩), .int .i64 i] w fun e w' => e = .returned (.bool (inside i l.length)) ∧ w = w' := by
  obtain ⟨cap, hb, _, _⟩ := a.blk
  have c0 : w.cell? ⟨g, 0, none⟩ = some (.slice (some ⟨h, 0, none⟩) l.length cap) := hb.cell 0
  clear hb a
  by_cases h0 : 0 ≤ i
  · have d0 : decide (0 ≤ i) = true := by simpa using h0
    by_cases h1 : i < l.length
    · have d1 : decide (i < (l.length : Int)) = true := by simpa using h1
      have HR : Hid (inside i l.length = true) := by show _ = _; simp [inside, h0, h1]
      go_enter Tryd.func76, Tryd.ntmps76
      go_wp2_with fail
      go_ret
      exact ⟨by rw [HR.out]; rfl, rfl⟩
    · have d1 : decide (i < (l.length : Int)) = false := by simpa using h1
      have HR : Hid (inside i l.length = false) := by show _ = _; simp [inside, h1]
      go_enter Tryd.func76, Tryd.ntmps76
      go_wp2_with fail
      go_ret
      exact ⟨by rw [HR.out]; rfl, rfl⟩
  · have d0 : decide (0 ≤ i) = false := by simpa using h0
    have HR : Hid (inside i l.length = false) := by show _ = _; simp [inside, h0]
    go_enter Tryd.func76, Tryd.ntmps76
    go_wp2_with fail
    go_ret
    exact ⟨by rw [HR.out]; rfl, rfl⟩
end
end Go.Proofs.YtnonfmaehfmigaaDoor

/- More contracts of package area: those that write. -/
namespace Go.Proofs.YtnonfmaehfmigaaDoor
open Go.RowKit

section
variable {w : World} {base g h : Nat} {l : List Int} {room : Nat}

/-- What Push leaves, where there is room. -/
def Pushed (w : World) (base g h : Nat) (l : List Int) (room : Nat) (c : Int) (r : Value) (e : Ending) (w' : World) : Prop :=
  e = .returned r ∧ Ar w' base g h (l ++ [c]) room ∧ Keeps w w' [g, h]
set_option maxHeartbeats 800000 in
theorem push_yes (a : Ar w base g h l room) (c : Int) (hc0 : 0 ≤ c) (hc1 : c < 18446744073709551616) (hr : right c = true) (hlt : l.length < room) :
    Calls Tryd.prog 52 #[.pointer (some ⟨g, 0, none⟩), .int .u64 c] w (Pushed w base g h l room c (.bool true)) := by
  obtain ⟨i0, hi, hz0, hz1, hz2⟩ := info_parts info_cell
  have HA := Lib.hid a
  obtain ⟨cap, hb, ho, hcap⟩ := a.blk
  have hlts := a.lt
  have hm := a.most
  have HB := Lib.hid hb
  have HO := Lib.hid ho
  have HR := Lib.hid hr
  have t1 : ((room : Int) - l.length == 0) = false := by simp; omega
  have hg1 := hlts.1
  have hh1 := hlts.2.1
  have HN := Lib.hid hlts.2.2.1
  have hbase := hlts.2.2.2
  have hcell : w.cell? ⟨g, 0, none⟩ = some (.slice (some ⟨h, 0, none⟩) l.length cap) := hb.cell 0
  clear a hb ho hr hlts
  go_enter Tryd.func52, Tryd.ntmps52
  go_wp2_with fail
  refine (free_any HA.out).mono ?_
  rintro e w' ⟨rfl, rfl⟩
  go_wp2_with fail
  refine (right_any c _ hc0 hc1).mono ?_
  rintro e w' ⟨rfl, rfl⟩
  rw [HR.out]
  go_wp2_with (at_builtin; refine wpList_append_fits _ rfl (.tmp 17) (.tmp 19) _ rfl base 28 i0 1 Tryd.underlying56 hi hz1 h l.length cap _ rfl ((HO.out.drew).alloc _) ⟨w.heap.size, 0, none⟩ 1 1 [.int .u64 c] rfl rfl (cell_one_new _ _ _) (by intro u hu; simp at hu; subst hu; rfl) (by omega) ?_; intro w1 hown hgrow; have hb1 := Lib.hid (((HB.out.drew).alloc (.cells #[.int .u64 c] 28)).grown hgrow (fun e => HN.out (by injection e))); have hc1 : w1.cell? ⟨g, 0, none⟩ = some (.slice (some ⟨h, 0, none⟩) l.length cap) := hb1.out.cell 0; have hf1 : w1.frozen? ⟨g, 0, none⟩ = false := hb1.out.frozen 0)
  go_ret
  have hk : Keeps w w1 [g, h] := (((Keeps.refl w _).drew).alloc _).grown hgrow (fun k hk => .inl (by injection hk with hk; subst hk; simp))
  have hneg : h ≠ (⟨g, 0, none⟩ : Addr).block := fun e => HN.out e.symm
  refine ⟨rfl, ⟨⟨cap, ?_, ?_, hcap⟩, HA.out.low, by rw [List.length_append]; simp; omega, hm, ?_⟩, hk.setCell (.inl (by simp)) _⟩
  · rw [List.length_append]
    exact hb1.out.set_ 0 _
  · rw [List.length_append, List.map_append]
    exact own_keep hown (Keeps.setCell (S := [g]) (p := ⟨g, 0, none⟩) (Keeps.refl w1 [g]) (.inl (by simp)) _) (by simpa using hneg)
  · intro x hx
    rcases List.mem_append.1 hx with hx | hx
    · exact HA.out.bytes x hx
    · simp at hx; subst hx; exact ⟨hc0, hc1⟩
set_option maxHeartbeats 400000 in
/-- There is no room, or it is no cell. -/
theorem push_no (a : Ar w base g h l room) (c : Int) (hc0 : 0 ≤ c) (hc1 : c < 18446744073709551616) (hn : l.length = room ∨ right c = false) :
    Calls Tryd.prog 52 #[.pointer (some ⟨g, 0, none⟩), .int .u64 c] w fun e w' => e = .returned (.bool false) ∧ w.drew = w' := by
  have hm := a.most
  have hfit := a.fits
  have HA := Lib.hid a
  clear a
  by_cases hl : l.length = room
  · have t1 : ((room : Int) - l.length == 0) = true := by simp; omega
    clear hn hl
    go_enter Tryd.func52, Tryd.ntmps52
    go_wp2_with fail
    refine (free_any HA.out).mono ?_
    rintro e w' ⟨rfl, rfl⟩
    go_wp2_with fail
    go_ret
    exact ⟨rfl, rfl⟩
  · have t1 : ((room : Int) - l.length == 0) = false := by simp; omega
    have HR := Lib.hid (hn.resolve_left hl)
    clear hn hl
    go_enter Tryd.func52, Tryd.ntmps52
    go_wp2_with fail
    refine (free_any HA.out).mono ?_
    rintro e w' ⟨rfl, rfl⟩
    go_wp2_with fail
    refine (right_any c _ hc0 hc1).mono ?_
    rintro e w' ⟨rfl, rfl⟩
    rw [HR.out]
    go_wp2_with fail
    go_ret
    exact ⟨rfl, rfl⟩

/-- What Cut leaves, where it may be. -/
def CutTo (w : World) (base g h : Nat) (l : List Int) (room n : Nat) (e : Ending) (w' : World) : Prop :=
  e = .returned (.bool true) ∧ Ar w' base g h (l.take n) room ∧ Keeps w w' [g, h]
set_option maxHeartbeats 800000 in
theorem cut_yes (a : Ar w base g h l room) (n : Nat) (hn : n ≤ l.length) :
    Calls Tryd.prog 41 #[.pointer (some ⟨g, 0, none⟩), .int .i64 n] w (CutTo w base g h l room n) := by
  have HA := Lib.hid a
  obtain ⟨cap, hb, ho, hcap⟩ := a.blk
  have hm := a.most
  have hfit := a.fits
  have hle : l.length ≤ cap := by omega
  have hcell : w.cell? ⟨g, 0, none⟩ = some (.slice (some ⟨h, 0, none⟩) l.length cap) := hb.cell 0
  have hfr : w.frozen? ⟨g, 0, none⟩ = false := hb.frozen 0
  have HB := Lib.hid hb
  have HO := Lib.hid ho
  have d1 : decide ((n : Int) < 0) = false := by simp
  have d2 : decide ((l.length : Int) < n) = false := by simp; omega
  obtain ⟨cur, hcur, hcs, _⟩ := own_block ho
  clear a hb ho
  go_enter Tryd.func41, Tryd.ntmps41
  go_wp2_with fail
  go_ret
  have hneg : h ≠ (⟨g, 0, none⟩ : Addr).block := fun e => (HA.out.lt).2.2.1 e.symm
  refine ⟨rfl, ⟨⟨cap, ?_, ?_, hcap⟩, HA.out.low, by rw [List.length_take]; omega, hm, fun x hx => HA.out.bytes x (List.mem_of_mem_take hx)⟩, (Keeps.refl w _).setCell (.inl (by simp)) _⟩
  · have e : (l.take n).length = n := by rw [List.length_take]; omega
    rw [e]
    exact HB.out.set_ 0 _
  · have e : (l.take n).length = n := by rw [List.length_take]; omega
    rw [e, List.map_take]
    exact own_keep (own_cut HO.out n hn) (Keeps.setCell (S := [g]) (p := ⟨g, 0, none⟩) (Keeps.refl w [g]) (.inl (by simp)) _) (by simpa using hneg)
set_option maxHeartbeats 400000 in
theorem cut_no (a : Ar w base g h l room) (n : Int) (hn : n < 0 ∨ (l.length : Int) < n) :
    Calls Tryd.prog 41 #[.pointer (some ⟨g, 0, none⟩), .int .i64 n] w fun e w' => e = .returned (.bool false) ∧ w = w' := by
  obtain ⟨cap, hb, ho, hcap⟩ := a.blk
  have hcell : w.cell? ⟨g, 0, none⟩ = some (.slice (some ⟨h, 0, none⟩) l.length cap) := hb.cell 0
  clear a hb ho
  by_cases h0 : n < 0
  · have d1 : decide (n < 0) = true := by simpa using h0
    clear hn
    go_enter Tryd.func41, Tryd.ntmps41
    go_wp2_with fail
    go_ret
    exact ⟨rfl, rfl⟩
  · have d1 : decide (n < 0) = false := by simpa using h0
    have d2 : decide ((l.length : Int) < n) = true := by simpa using hn.resolve_left h0
    clear hn
    go_enter Tryd.func41, Tryd.ntmps41
    go_wp2_with fail
    go_ret
    exact ⟨rfl, rfl⟩
end

/-! ### told -/
end Go.Proofs.YtnonfmaehfmigaaDoor

/- The other contracts of package area: Get, Set, Cells, and those without a look. -/
namespace Go.Proofs.YtnonfmaehfmigaaDoor
open Go.RowKit

section
variable {w : World} {base g h : Nat} {l : List Int} {room : Nat}
theorem inside_iff {i : Int} {n : Nat} : inside i n = true ↔ ∃ k : Nat, i = k ∧ k < n := by
  unfold inside
  rw [Bool.and_eq_true, decide_eq_true_eq, decide_eq_true_eq]
  constructor
  · rintro ⟨h1, h2⟩
    obtain ⟨k, rfl⟩ := Int.eq_ofNat_of_zero_le h1
    exact ⟨k, rfl, by omega⟩
  · rintro ⟨k, rfl, hk⟩
    omega

set_option maxHeartbeats 400000 in
theorem get_yes (a : Ar w base g h l room) (k : Nat) (x : Int) (hx : l[k]? = some x) :
    Calls Tryd.prog 44 #[.pointer (some ⟨g, 0, none⟩), .int .i64 k] w fun e w' => e = .returned (.tuple #[.int .u64 x, .bool true]) ∧ w = w' := by
  have hk : k < l.length := (List.getElem?_eq_some_iff.1 hx).1
  have HA := Lib.hid a
  have HI : Hid (inside (k : Int) l.length = true) := inside_iff.2 ⟨k, rfl, hk⟩
  obtain ⟨cap, hb, ho, _⟩ := a.blk
  have c0 : w.cell? ⟨g, 0, none⟩ = some (.slice (some ⟨h, 0, none⟩) l.length cap) := hb.cell 0
  have c1 : w.cell? ⟨h, k, none⟩ = some (.int .u64 x) := by rw [ho.cellAt _ (by omega), List.getElem?_map, hx]; rfl
  clear a hb ho hx
  go_enter Tryd.func44, Tryd.ntmps44
  go_wp2_with fail
  refine (has_any HA.out k).mono ?_
  rintro e w' ⟨rfl, rfl⟩
  rw [HI.out]
  go_wp2_with fail
  go_ret2
  exact ⟨rfl, rfl⟩
set_option maxHeartbeats 400000 in
theorem get_no (a : Ar w base g h l room) (i : Int) (hi : inside i l.length = false) :
    Calls Tryd.prog 44 #[.pointer (some ⟨g, 0, none⟩), .int .i64 i] w fun e w' => e = .returned (.tuple #[.int .u64 0, .bool false]) ∧ w = w' := by
  have HA := Lib.hid a
  have HI := Lib.hid hi
  clear a hi
  go_enter Tryd.func44, Tryd.ntmps44
  go_wp2_with fail
  refine (has_any HA.out i).mono ?_
  rintro e w' ⟨rfl, rfl⟩
  rw [HI.out]
  go_wp2_with fail
  go_ret2
  exact ⟨rfl, rfl⟩

theorem Ar.set_ (a : Ar w base g h l room) (k : Nat) (c : Int) (hc : 0 ≤ c ∧ c < 18446744073709551616) : Ar (w.setCell ⟨h, k, none⟩ (.int .u64 c)) base g h (l.set k c) room := by
  have hne := a.lt.2.2.1
  obtain ⟨cap, hb, ho, hcap⟩ := a.blk
  refine ⟨⟨cap, ?_, ?_, hcap⟩, a.low, by rw [List.length_set]; exact a.fits, a.most, fun x hx => ?_⟩
  · rw [List.length_set]
    exact hb.far (p := ⟨h, k, none⟩) hne _
  · rw [List.length_set, List.map_set]
    exact (ho.stored k _).1
  · rcases List.mem_or_eq_of_mem_set hx with hx | rfl
    · exact a.bytes x hx
    · exact hc
/-- What Set leaves, where it may be. -/
def SetAt (w : World) (base g h : Nat) (l : List Int) (room k : Nat) (c : Int) (r : Value) (e : Ending) (w' : World) : Prop :=
  e = .returned r ∧ Ar w' base g h (l.set k c) room ∧ Keeps w w' [g, h]
set_option maxHeartbeats 400000 in
theorem set_yes (a : Ar w base g h l room) (k : Nat) (c : Int) (hk : k < l.length) (hc0 : 0 ≤ c) (hc1 : c < 18446744073709551616) (hr : right c = true) :
    Calls Tryd.prog 48 #[.pointer (some ⟨g, 0, none⟩), .int .i64 k, .int .u64 c] w (SetAt w base g h l room k c (.bool true)) := by
  have HA := Lib.hid a
  have HI : Hid (inside (k : Int) l.length = true) := inside_iff.2 ⟨k, rfl, hk⟩
  have HR := Lib.hid hr
  obtain ⟨cap, hb, ho, _⟩ := a.blk
  obtain ⟨old, hold⟩ : ∃ old, w.cell? ⟨h, k, none⟩ = some (.int .u64 old) := ⟨l[k], by rw [ho.cellAt _ (by omega), List.getElem?_map, List.getElem?_eq_getElem hk]; rfl⟩
  have c0 : w.cell? ⟨g, 0, none⟩ = some (.slice (some ⟨h, 0, none⟩) l.length cap) := hb.cell 0
  have c1 : w.frozen? ⟨h, k, none⟩ = false := ho.frozenAt k
  clear a hb ho hr
  go_enter Tryd.func48, Tryd.ntmps48
  go_wp2_with fail
  refine (has_any HA.out k).mono ?_
  rintro e w' ⟨rfl, rfl⟩
  rw [HI.out]
  go_wp2_with fail
  refine (right_any c _ hc0 hc1).mono ?_
  rintro e w' ⟨rfl, rfl⟩
  rw [HR.out]
  go_wp2_with fail
  go_ret
  exact ⟨rfl, HA.out.set_ k c ⟨hc0, hc1⟩, (Keeps.refl w _).setCell (.inl (by simp)) _⟩
set_option maxHeartbeats 400000 in
theorem set_no (a : Ar w base g h l room) (i c : Int) (hc0 : 0 ≤ c) (hc1 : c < 18446744073709551616) (hn : inside i l.length = false ∨ right c = false) :
    Calls Tryd.prog 48 #[.pointer (some ⟨g, 0, none⟩), .int .i64 i, .int .u64 c] w fun e w' => e = .returned (.bool false) ∧ w = w' := by
  have HA := Lib.hid a
  clear a
  by_cases hi : inside i l.length = true
  · have HR : Hid (right c = false) := hn.resolve_left (by rw [hi]; simp)
    have HI := Lib.hid hi
    clear hi hn
    go_enter Tryd.func48, Tryd.ntmps48
    go_wp2_with fail
    refine (has_any HA.out i).mono ?_
    rintro e w' ⟨rfl, rfl⟩
    rw [HI.out]
    go_wp2_with fail
    refine (right_any c _ hc0 hc1).mono ?_
    rintro e w' ⟨rfl, rfl⟩
    rw [HR.out]
    go_wp2_with fail
    go_ret
    exact ⟨rfl, rfl⟩
  · have HI : Hid (inside i l.length = false) := by show _ = _; simpa using hi
    clear hi hn
    go_enter Tryd.func48, Tryd.ntmps48
    go_wp2_with fail
    refine (has_any HA.out i).mono ?_
    rintro e w' ⟨rfl, rfl⟩
    rw [HI.out]
    go_wp2_with fail
    go_ret
    exact ⟨rfl, rfl⟩

/-- A copy of a row, of the call's own. -/
def Copied (w : World) (e : TypeId) (l : List Int) (r : Ending) (w' : World) : Prop :=
  ∃ A c, r = .returned (.slice A l.length c) ∧ w'.ownsRow w.heap.size e 1 (.slice A l.length c) l.length (l.map (Value.int .u64)) ∧ Below w.heap.size w w'
set_option maxHeartbeats 400000 in
theorem clone_any (A : Addr) (n c : Nat) (B : Nat) (hl : l.length = n) (hn : n ≤ 65536) (hA : Nums .u64 w B (some A) l) :
    Calls Tryd.prog 78 #[.slice (some A) n c] w (Copied w 28 l) := by
  obtain ⟨i0, hi, hz0, hz1, hz2⟩ := info_parts info_cell
  have HL := Lib.hid hl
  have hBs : Nums .u64 w w.heap.size (some A) l := fun k hk => by
    obtain ⟨b, off, x, e1, e2, e3, e4⟩ := hA k hk
    exact ⟨b, off, x, e1, World.block_lt_of_cell? w _ e3, e3, e4⟩
  have HA := Lib.hid hBs
  have hne := Lib.run_eql_slice_nil (P := Tryd.prog)
  clear hl hA hBs
  go_enter Tryd.func78, Tryd.ntmps78
  go_wp2_with (at_builtin; refine wpList_append_row _ rfl (.tmp 5) (.tmp 6) _ rfl w.heap.size 28 i0 _ 1 8 Tryd.underlying56 hi hz0 hz1 hz2 rfl (by omega) (some ⟨w.heap.size, 0, none⟩) 0 0 [] rfl (World.ownsRow_made _ #[] 0 (Nat.le_refl _) (Nat.zero_le _) rfl) w.heap.size (some A) n c (l.map (Value.int .u64)) rfl (HA.out.alloc (Nat.le_refl _) _).toRow (by rw [List.length_map, HL.out, Nat.mul_one]) (fun hh => by cases hh) (oneCell_ints _ _) (by simp only [maxLen]; omega) (by omega) (by simp) ?_; intro A' c' w1 hown hgrow hat)
  go_ret
  refine ⟨A', c', ?_, ?_, ((Below.refl _ _).alloc (Nat.le_refl _) _).grown hgrow (by simp) (fun k hk => by simp [Value.ownBlock] at hk; omega)⟩
  · rw [HL.out]; rfl
  · rw [HL.out]
    simpa using hown
set_option maxHeartbeats 400000 in
theorem cells_any (a : Ar w base g h l room) : Calls Tryd.prog 54 #[.pointer (some ⟨g, 0, none⟩)] w (Copied w 28 l) := by
  have hm := a.most
  have hf := a.fits
  obtain ⟨cap, hb, ho, _⟩ := a.blk
  have c0 : w.cell? ⟨g, 0, none⟩ = some (.slice (some ⟨h, 0, none⟩) l.length cap) := hb.cell 0
  have HN := Lib.hid (Row.of_own ho).toNums
  clear a hb ho
  go_enter Tryd.func54, Tryd.ntmps54
  go_wp2_with fail
  refine (clone_any _ _ _ _ rfl (by omega) HN.out).mono ?_
  rintro e w1 ⟨A', c', rfl, hown, hb1⟩
  go_wp2_with fail
  go_ret
  exact ⟨A', c', rfl, hown, hb1⟩

/-! ### Without a look -/
end
end Go.Proofs.YtnonfmaehfmigaaDoor

/- The contracts of package cell and of the document's cells, but for their texts. -/
namespace Go.Proofs.YtnonfmaehfmigaaDoor
open Go.RowKit

theorem right_iff (c : Int) : right c = true ↔ c % 8 ≤ 4 ∧ c / 8 < 1099511627776 := by simp [right]
theorem right_not (c : Int) : right c = false ↔ ¬ (c % 8 ≤ 4 ∧ c / 8 < 1099511627776) := by
  rw [← right_iff]; cases right c <;> simp

/-! ### The kind and the number of a cell; -1 where it is none -/
def kindOf (c : Int) : Int := if right c then c % 8 else -1
def numOf (c : Int) : Int := if right c then c / 8 else -1
set_option maxHeartbeats 400000 in
theorem kind_any (c : Int) (w : World) (h0 : 0 ≤ c) (h1 : c < 18446744073709551616) : Calls Tryd.prog 43 #[.int .u64 c] w fun e w' => e = .returned (.int .i64 (kindOf c)) ∧ w = w' := by
  have hm : 0 ≤ c % 8 ∧ c % 8 < 8 := by omega
  by_cases hr : right c = true
  · have HK : Hid (kindOf c = c % 8) := by show _ = _; unfold kindOf; rw [if_pos hr]
    have HR := Lib.hid hr
    clear hr
    go_enter Tryd.func43, Tryd.ntmps43
    go_wp2_with fail
    refine (right_any c _ h0 h1).mono ?_
    rintro e w' ⟨rfl, rfl⟩
    rw [HR.out]
    go_wp2_with fail
    go_ret
    exact ⟨by rw [HK.out]; rfl, rfl⟩
  · have HK : Hid (kindOf c = -1) := by show _ = _; unfold kindOf; rw [if_neg hr]
    have HR : Hid (right c = false) := by show _ = _; simpa using hr
    clear hr
    go_enter Tryd.func43, Tryd.ntmps43
    go_wp2_with fail
    refine (right_any c _ h0 h1).mono ?_
    rintro e w' ⟨rfl, rfl⟩
    rw [HR.out]
    go_wp2_with fail
    go_ret
    exact ⟨by rw [HK.out]; rfl, rfl⟩
set_option maxHeartbeats 400000 in
theorem number_any (c : Int) (w : World) (h0 : 0 ≤ c) (h1 : c < 18446744073709551616) : Calls Tryd.prog 45 #[.int .u64 c] w fun e w' => e = .returned (.int .i64 (numOf c)) ∧ w = w' := by
  have hm : 0 ≤ c / 8 ∧ c / 8 < 2305843009213693952 := by omega
  by_cases hr : right c = true
  · have HK : Hid (numOf c = c / 8) := by show _ = _; unfold numOf; rw [if_pos hr]
    have HR := Lib.hid hr
    clear hr
    go_enter Tryd.func45, Tryd.ntmps45
    go_wp2_with fail
    refine (right_any c _ h0 h1).mono ?_
    rintro e w' ⟨rfl, rfl⟩
    rw [HR.out]
    go_wp2_with fail
    go_ret
    exact ⟨by rw [HK.out]; rfl, rfl⟩
  · have HK : Hid (numOf c = -1) := by show _ = _; unfold numOf; rw [if_neg hr]
    have HR : Hid (right c = false) := by show _ = _; simpa using hr
    clear hr
    go_enter Tryd.func45, Tryd.ntmps45
    go_wp2_with fail
    refine (right_any c _ h0 h1).mono ?_
    rintro e w' ⟨rfl, rfl⟩
    rw [HR.out]
    go_wp2_with fail
    go_ret
    exact ⟨by rw [HK.out]; rfl, rfl⟩
/-! ### Make -/
def fits (k n : Int) : Prop := 0 ≤ k ∧ k ≤ 4 ∧ 0 ≤ n ∧ n < 1099511627776
set_option maxHeartbeats 400000 in
theorem make_yes (k n : Int) (w : World) (h : fits k n) : Calls Tryd.prog 49 #[.int .i64 k, .int .i64 n] w fun e w' => e = .returned (.int .u64 (n * 8 + k)) ∧ w = w' := by
  obtain ⟨h1, h2, h3, h4⟩ := h
  have d1 : decide (k < 0) = false := by simpa using h1
  have d2 : decide (4 < k) = false := by simpa using h2
  have d3 : decide (n < 0) = false := by simpa using h3
  have d4 : decide (1099511627776 ≤ n) = false := by simpa using h4
  go_enter Tryd.func49, Tryd.ntmps49
  go_wp2_with fail
  go_ret
  exact ⟨rfl, rfl⟩
set_option maxHeartbeats 400000 in
theorem refMake_yes (k n : Int) (w : World) (h : fits k n) : Calls Tryd.prog 25 #[.int .i64 k, .int .i64 n] w fun e w' => e = .returned (.int .u64 (8 * n + k)) ∧ w = w' := by
  obtain ⟨h1, h2, h3, h4⟩ := h
  have d1 : decide (k < 0) = false := by simpa using h1
  have d2 : decide (4 < k) = false := by simpa using h2
  have d3 : decide (n < 0) = false := by simpa using h3
  have d4 : decide (1099511627776 ≤ n) = false := by simpa using h4
  go_enter Tryd.func25, Tryd.ntmps25
  go_wp2_with fail
  go_ret
  exact ⟨rfl, rfl⟩
set_option maxHeartbeats 800000 in
theorem make_no (k n : Int) (w : World) (h : ¬ fits k n) : Calls Tryd.prog 49 #[.int .i64 k, .int .i64 n] w fun e w' => e = .returned (.int .u64 18446744073709551615) ∧ w = w' := by
  have HH := Lib.hid h
  clear h
  by_cases h1 : k < 0
  · have d1 : decide (k < 0) = true := by simpa using h1
    go_enter Tryd.func49, Tryd.ntmps49
    go_wp2_with fail
    go_ret
    exact ⟨rfl, rfl⟩
  · have d1 : decide (k < 0) = false := by simpa using h1
    by_cases h2 : 4 < k
    · have d2 : decide (4 < k) = true := by simpa using h2
      go_enter Tryd.func49, Tryd.ntmps49
      go_wp2_with fail
      go_ret
      exact ⟨rfl, rfl⟩
    · have d2 : decide (4 < k) = false := by simpa using h2
      by_cases h3 : n < 0
      · have d3 : decide (n < 0) = true := by simpa using h3
        go_enter Tryd.func49, Tryd.ntmps49
        go_wp2_with fail
        go_ret
        exact ⟨rfl, rfl⟩
      · have d3 : decide (n < 0) = false := by simpa using h3
        have h4 : 1099511627776 ≤ n := by
          have := HH.out
          unfold fits at this
          omega
        have d4 : decide (1099511627776 ≤ n) = true := by simpa using h4
        go_enter Tryd.func49, Tryd.ntmps49
        go_wp2_with fail
        go_ret
        exact ⟨rfl, rfl⟩
set_option maxHeartbeats 800000 in
theorem refMake_no (k n : Int) (w : World) (h : ¬ fits k n) : Calls Tryd.prog 25 #[.int .i64 k, .int .i64 n] w fun e w' => e = .returned (.int .u64 18446744073709551615) ∧ w = w' := by
  have HH := Lib.hid h
  clear h
  by_cases h1 : k < 0
  · have d1 : decide (k < 0) = true := by simpa using h1
    go_enter Tryd.func25, Tryd.ntmps25
    go_wp2_with fail
    go_ret
    exact ⟨rfl, rfl⟩
  · have d1 : decide (k < 0) = false := by simpa using h1
    by_cases h2 : 4 < k
    · have d2 : decide (4 < k) = true := by simpa using h2
      go_enter Tryd.func25, Tryd.ntmps25
      go_wp2_with fail
      go_ret
      exact ⟨rfl, rfl⟩
    · have d2 : decide (4 < k) = false := by simpa using h2
      by_cases h3 : n < 0
      · have d3 : decide (n < 0) = true := by simpa using h3
        go_enter Tryd.func25, Tryd.ntmps25
        go_wp2_with fail
        go_ret
        exact ⟨rfl, rfl⟩
      · have d3 : decide (n < 0) = false := by simpa using h3
        have h4 : 1099511627776 ≤ n := by
          have := HH.out
          unfold fits at this
          omega
        have d4 : decide (1099511627776 ≤ n) = true := by simpa using h4
        go_enter Tryd.func25, Tryd.ntmps25
        go_wp2_with fail
        go_ret
        exact ⟨rfl, rfl⟩
end Go.Proofs.YtnonfmaehfmigaaDoor

/- A heap in memory; maps of numbers; what a heap's call leaves. -/
namespace Go.Proofs.YtnonfmaehfmigaaDoor
open Go.RowKit Go.Maps

theorem law_int : Keyed Tryd.prog 3 := int_keyed Tryd.underlying3
theorem zero_int (w : World) : (zeroValue 3).run Tryd.prog w = .ok (.int .i64 0) w := by kernel_rfl
/-- A number that an int may be. -/
def I64 (x : Int) : Prop := -9223372036854775808 ≤ x ∧ x ≤ 9223372036854775807
theorem I64.wf {x : Int} (h : I64 x) : (Lit.int .i64 x).wf = true := WalkArith.wf_i64 (by have := h.1; have := h.2; omega)
theorem I64.key {x : Int} (h : I64 x) : keyOf Tryd.prog 3 (.int .i64 x) = some (.int .i64 x) := keyOf_int_mk Tryd.underlying3 h.wf
/-- A map of numbers to numbers, of at most n entries. -/
def VM (w : World) (b n : Nat) (f : Int → Option Int) : Prop :=
  ∃ D : DataW Unit, w.ownsMap Tryd.prog 3 (plainElem Tryd.prog 3) b n D ∧ ∀ x, I64 x → Maps.has D (.int .i64 x) = (f x).isSome ∧ D.atKey (.int .i64 x) (.lit (.int .i64 0)) = .lit (.int .i64 ((f x).getD 0))
theorem VM.kept {w w' : World} {b n : Nat} {f : Int → Option Int} (h : VM w b n f) {L : List Nat} (k : Keeps w w' L) (hb : b ∉ L) : VM w' b n f := by
  obtain ⟨D, h1, h2⟩ := h
  obtain ⟨es, clock, e1, r⟩ := h1
  exact ⟨D, ⟨es, clock, (k.block b (Array.getElem?_eq_some_iff.1 e1).1 hb).trans e1, r⟩, h2⟩
theorem VM.lt {w : World} {b n : Nat} {f : Int → Option Int} (h : VM w b n f) : b < w.heap.size := by
  obtain ⟨D, h1, _⟩ := h
  exact h1.lt
set_option maxRecDepth 100000 in
/-- The look-up. -/
theorem VM.look {w : World} {b n : Nat} {f : Int → Option Int} (h : VM w b n f) {x : Int} (hx : I64 x) : (Instr.lookup 82 (.map (some b)) (.int .i64 x) true).run Tryd.prog w = .ok (.tuple #[.int .i64 ((f x).getD 0), .bool (f x).isSome]) w := by
  obtain ⟨D, h1, h2⟩ := h
  obtain ⟨v, ps, hrun, hv⟩ := h1.look_ok law_int Tryd.underlying82 (zero_int w) (plainElem_int Tryd.underlying3 (I64.wf ⟨by omega, by omega⟩)) hx.key
  obtain ⟨c, rfl, hc, _⟩ := plainElem_int_inv Tryd.underlying3 hv
  obtain ⟨h3, h4⟩ := h2 x hx
  have h5 := congrArg Prod.fst hc
  simp only at h5
  rw [h4] at h5
  have h6 : (f x).getD 0 = c := by injection h5 with h5; injection h5
  rw [hrun, h3, h6]
/-- The store. -/
theorem VM.put {w : World} {b n : Nat} {f : Int → Option Int} (h : VM w b n f) (hn : n ≤ 1000000) {x p : Int} (hx : I64 x) (hp : I64 p) :
    ∃ w', (Instr.mapUpdate 82 (.map (some b)) (.int .i64 x) (.int .i64 p)).run Tryd.prog w = .ok () w' ∧ VM w' b (n + 1) (putV f x p) ∧ Keeps w w' [b] := by
  obtain ⟨D, h1, h2⟩ := h
  obtain ⟨w', hrun, h3, hg⟩ := h1.update law_int Tryd.underlying82 (by unfold maxLen; omega) hx.key (plainElem_int Tryd.underlying3 hp.wf)
  refine ⟨w', hrun, ⟨_, h3, fun y hy => ?_⟩, ⟨hg.os, hg.tape, hg.output, hg.size, fun k hk hkb => hg.block k hk (fun e => hkb (by injection e with e; subst e; simp))⟩⟩
  by_cases hyx : y = x
  · subst hyx
    unfold putV
    rw [if_pos rfl]
    exact ⟨has_put_same h1.isMap (by trivial) _, atKey_put_same h1.isMap (by trivial) _ _⟩
  · have hne : (Lit.int .i64 y) ≠ Lit.int .i64 x := fun e => hyx (by injection e)
    unfold putV
    rw [if_neg hyx, has_put_other hne, atKey_put_other hne]
    exact h2 y hy
theorem VM.made (w : World) : VM (w.alloc (.map #[] 0)) w.heap.size 0 (fun _ => none) :=
  ⟨_, World.ownsMap_made w Tryd.prog 3 _, fun _ _ => ⟨rfl, rfl⟩⟩

/-! ### A heap -/
def funE (x : ByteArray × Int) : List Value := [.string x.1, .int .i64 x.2]
theorem funE_len (x : ByteArray × Int) : (funE x).length = 2 := rfl
theorem funE_one (l : List (ByteArray × Int)) : ∀ u ∈ l.flatMap funE, u.oneCell' = true := by
  intro u hu
  obtain ⟨x, _, hx⟩ := List.mem_flatMap.1 hu
  simp only [funE, List.mem_cons, List.not_mem_nil, or_false] at hx
  rcases hx with rfl | rfl <;> rfl
def mkE (x : Int × Int) : List Value := [.int .i64 x.1, .int .i64 x.2]
structure Hm (w : World) (base hb ag ah vb : Nat) (AA FA TA MA : Option Addr) (ca nt ct nm cm cf : Nat) (H : PH) (tr : List Int) (mk : List (Int × Int)) (room : Nat) : Prop where
  blk : Blk w hb 85 #[.pointer (some ⟨ag, 0, none⟩), .slice AA H.atoms.length ca, .slice FA H.funs.length cf, .map (some vb), .slice TA nt ct, .slice MA nm cm]
  ar : Ar w base ag ah H.cells room
  atoms : w.ownsRow base 9 1 (.slice AA H.atoms.length ca) H.atoms.length (H.atoms.map Value.string)
  funs : w.ownsRow base 80 2 (.slice FA H.funs.length cf) H.funs.length (H.funs.flatMap funE)
  vars : VM w vb H.cells.length H.vars
  trail : w.ownsRow base 3 1 (.slice TA nt ct) nt (tr.map (Value.int .i64))
  marks : w.ownsRow base 87 2 (.slice MA nm cm) nm (mk.flatMap mkE)
  low : base ≤ hb ∧ base ≤ vb
  few : H.atoms.length ≤ 1000000 ∧ H.funs.length ≤ 1000000
/-- The blocks of a heap. -/
def hpL (hb ag ah vb : Nat) (AA FA TA MA : Option Addr) : List Nat := [hb, ag, ah, vb] ++ (ownL (.slice AA 0 0) ++ (ownL (.slice FA 0 0) ++ (ownL (.slice TA 0 0) ++ ownL (.slice MA 0 0))))
theorem ownL_slice (A : Option Addr) (n c : Nat) : ownL (.slice A n c) = ownL (.slice A 0 0) := by cases A <;> rfl
/-- A heap behind a pointer; its blocks. -/
def Hp (w : World) (base hb : Nat) (L : List Nat) (H : PH) (tr : List Int) (mk : List (Int × Int)) (room : Nat) : Prop :=
  ∃ ag ah vb AA FA TA MA ca nt ct nm cm cf, L = hpL hb ag ah vb AA FA TA MA ∧ Hm w base hb ag ah vb AA FA TA MA ca nt ct nm cm cf H tr mk room
/-- What a call leaves: only the heap's own blocks turn; those that come are new. -/
structure HSt (w : World) (L : List Nat) (w' : World) (L' : List Nat) : Prop where
  keep : Keeps w w' L
  own : ∀ b ∈ L', b ∈ L ∨ w.heap.size ≤ b
theorem HSt.refl (w : World) (L : List Nat) : HSt w L w L := ⟨Keeps.refl w L, fun _ h => .inl h⟩
theorem HSt.trans {a b c : World} {L M N : List Nat} (h : HSt a L b M) (k : HSt b M c N) : HSt a L c N := by
  refine ⟨⟨k.keep.os.trans h.keep.os, k.keep.tape.trans h.keep.tape, k.keep.output.trans h.keep.output, Nat.le_trans h.keep.size k.keep.size, fun i hi hn => ?_⟩, fun x hx => ?_⟩
  · refine (k.keep.block i (Nat.lt_of_lt_of_le hi h.keep.size) (fun hm => ?_)).trans (h.keep.block i hi hn)
    rcases h.own i hm with h1 | h1
    · exact hn h1
    · omega
  · rcases k.own x hx with h1 | h1
    · exact h.own x h1
    · exact .inr (Nat.le_trans h.keep.size h1)
/-- A tree that lies outside stays. -/
theorem HSt.tree {w w' : World} {L L' : List Nat} (h : HSt w L w' L') {t : Tm} {v : TV} (ht : Tr w (fun b => b ∉ L) t v) : Tr w' (fun b => b ∉ L') t v :=
  (ht.here.keepL h.keep (fun b hb hn => hn.1 hb)).mono fun b hb hm => by
    rcases h.own b hm with h1 | h1
    · exact hb.1 h1
    · omega
end Go.Proofs.YtnonfmaehfmigaaDoor
