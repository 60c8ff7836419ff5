/- Variables by their first places: the plain law; a row of terms that is made one by one. No function in sight. -/
import Derived.Test.YtnonfmaehfmigaaGreatDoorMgBind
import Derived.Test.YtnonfmaehfmigaaGreatDoorMgTwo
namespace Go.Proofs.YtnonfmaehfmigaaGreatDoor
open Go.RowKit

mutual
def tRn (f : Int → Int) : Tm → Tm
  | .mk k n s l => .mk k (if k = 0 then f n else n) s (tRns f l)
def tRns (f : Int → Int) : List Tm → List Tm
  | [] => []
  | a :: l => tRn f a :: tRns f l
end
theorem tRns_map (f : Int → Int) : ∀ l : List Tm, tRns f l = l.map (tRn f)
  | [] => by simp [tRns]
  | a :: l => by rw [tRns, tRns_map f l]; simp
theorem tRn_var (f : Int → Int) {k n : Int} (s : ByteArray) (l : List Tm) (h : k = 0) : tRn f (.mk k n s l) = .mk k (f n) s (l.map (tRn f)) := by rw [tRn, if_pos h, tRns_map]
theorem tRn_node (f : Int → Int) {k n : Int} (s : ByteArray) (l : List Tm) (h : k ≠ 0) : tRn f (.mk k n s l) = .mk k n s (l.map (tRn f)) := by rw [tRn, if_neg h, tRns_map]
theorem tRn_congr (t : Tm) : ∀ {f g : Int → Int}, tRight t = true → (∀ n ∈ tV t, f n = g n) → tRn f t = tRn g t := by
  induction t using Tm.ind_ with
  | h k n s l ih =>
    intro f g hr h
    by_cases h0 : k = 0
    · rw [tRn_var f s l h0, tRn_var g s l h0]
      subst h0
      obtain ⟨e, _, _⟩ := right_var hr
      obtain ⟨_, _, _, rfl⟩ := Tm.mk.inj e
      rw [h n (by rw [tV, if_pos rfl]; simp)]
      rfl
    · rw [tRn_node f s l h0, tRn_node g s l h0]
      congr 1
      exact List.map_congr_left fun a ha => ih a ha (right_parts hr a ha) fun m hm => h m (by rw [tV, if_neg h0]; exact mem_tVL.2 ⟨a, ha, hm⟩)
theorem tRn_comp (f g : Int → Int) (t : Tm) : tRn f (tRn g t) = tRn (fun n => f (g n)) t := by
  induction t using Tm.ind_ with
  | h k n s l ih =>
    by_cases h0 : k = 0
    · rw [tRn_var g s l h0, tRn_var _ s _ h0, tRn_var _ s l h0, List.map_map]
      congr 1
      exact List.map_congr_left fun a ha => ih a ha
    · rw [tRn_node g s l h0, tRn_node _ s _ h0, tRn_node _ s l h0, List.map_map]
      congr 1
      exact List.map_congr_left fun a ha => ih a ha
theorem tRn_wid (f : Int → Int) (t : Tm) : tWid t → tWid (tRn f t) := by
  induction t using Tm.ind_ with
  | h k n s l ih =>
    intro h
    rw [tRn, tRns_map, tWid]
    rw [tWid] at h
    refine ⟨by rw [List.length_map]; exact h.1, ?_⟩
    have key : ∀ l : List Tm, (∀ a ∈ l, tWid a → tWid (tRn f a)) → tWids l → tWids (l.map (tRn f)) := by
      intro l
      induction l with
      | nil => exact fun _ h => h
      | cons a l ihl => exact fun h1 h2 => ⟨h1 a (by simp) h2.1, ihl (fun b hb => h1 b (by simp [hb])) h2.2⟩
    exact key l ih h.2
/-- Different numbers stay different. -/
def Inj (f : Int → Int) (Vs : List Int) : Prop := ∀ a ∈ Vs, ∀ b ∈ Vs, f a = f b → a = b
theorem any_map {f : Int → Int} {Vs acc : List Int} (hi : Inj f Vs) (ha : ∀ a ∈ acc, a ∈ Vs) {n : Int} (hn : n ∈ Vs) : (acc.map f).any (hasI (f n)) = acc.any (hasI n) := by
  rw [Bool.eq_iff_iff, any_has, any_has, List.mem_map]
  constructor
  · rintro ⟨a, h1, h2⟩
    have := hi a (ha a h1) n hn h2
    subst this
    exact h1
  · exact fun h => ⟨n, h, rfl⟩
theorem addV_map {f : Int → Int} {Vs acc : List Int} (hi : Inj f Vs) (ha : ∀ a ∈ acc, a ∈ Vs) {n : Int} (hn : n ∈ Vs) : addV (acc.map f) (f n) = (addV acc n).map f := by
  unfold addV
  rw [any_map hi ha hn]
  split
  · rfl
  · rw [List.map_append]; rfl
theorem walk_in {Vs acc : List Int} (ha : ∀ a ∈ acc, a ∈ Vs) {t : Tm} (h : In Vs t) : ∀ a ∈ tWalk acc t, a ∈ Vs := fun a h1 => ((walk_mem t h.rt acc a).1 h1).elim (ha a) (h.vs a)
theorem walks_map_ {f : Int → Int} {Vs : List Int} : ∀ {l : List Tm}, (∀ a ∈ l, ∀ acc, (∀ b ∈ acc, b ∈ Vs) → tWalk (acc.map f) (tRn f a) = (tWalk acc a).map f) → (∀ a ∈ l, In Vs a) → ∀ acc, (∀ b ∈ acc, b ∈ Vs) → tWalks (acc.map f) (l.map (tRn f)) = (tWalks acc l).map f
  | [], _, _, acc, _ => by simp [tWalks]
  | a :: l, ih, hin, acc, ha => by
    rw [List.map_cons, tWalks, tWalks, ih a (by simp) acc ha]
    exact walks_map_ (fun b hb => ih b (by simp [hb])) (fun b hb => hin b (by simp [hb])) _ (walk_in ha (hin a (by simp)))
theorem walk_map {f : Int → Int} {Vs : List Int} (hi : Inj f Vs) (t : Tm) : In Vs t → ∀ acc, (∀ b ∈ acc, b ∈ Vs) → tWalk (acc.map f) (tRn f t) = (tWalk acc t).map f := by
  induction t using Tm.ind_ with
  | h k n s l ih =>
    intro hin acc ha
    by_cases h0 : k = 0
    · subst h0
      obtain ⟨e, _, _⟩ := right_var hin.rt
      obtain ⟨_, _, _, rfl⟩ := Tm.mk.inj e
      rw [tRn_var f s _ rfl, tWalk, tWalk, if_pos rfl, if_pos rfl, List.map_nil, tWalks, tWalks]
      exact addV_map hi ha (hin.vs n (by rw [tV, if_pos rfl]; simp))
    · rw [tRn_node f s l h0, tWalk, tWalk, if_neg h0, if_neg h0]
      exact walks_map_ (fun a hm acc ha => ih a hm (hin.parts h0 a hm) acc ha) (hin.parts h0) acc ha
theorem vars_map {f : Int → Int} {Vs : List Int} (hi : Inj f Vs) {l : List Tm} (hin : ∀ a ∈ l, In Vs a) : tVars (l.map (tRn f)) = (tVars l).map f :=
  walks_map_ (fun a hm acc ha => walk_map hi a (hin a hm) acc ha) hin [] (by simp)
theorem findI_map {f : Int → Int} {Vs acc : List Int} (hi : Inj f Vs) (ha : ∀ a ∈ acc, a ∈ Vs) {n : Int} (hn : n ∈ Vs) : findI (hasI (f n)) (acc.map f) = findI (hasI n) acc := by
  unfold findI
  rw [any_map hi ha hn]
  have : (acc.map f).findIdx (hasI (f n)) = acc.findIdx (hasI n) := by
    rw [List.findIdx_map]
    have : ∀ acc : List Int, (∀ a ∈ acc, a ∈ Vs) → acc.findIdx (hasI (f n) ∘ f) = acc.findIdx (hasI n) := by
      intro acc
      induction acc with
      | nil => intro _; rfl
      | cons a acc ih =>
        intro h
        have e : (hasI (f n) ∘ f) a = hasI n a := by
          unfold hasI
          simp only [Function.comp]
          rw [Bool.eq_iff_iff, beq_iff_eq, beq_iff_eq]
          exact ⟨fun he => hi n hn a (h a (by simp)) he, fun he => by rw [he]⟩
        rw [List.findIdx_cons, List.findIdx_cons, e, ih fun b hb => h b (by simp [hb])]
    exact this acc ha
  rw [this]
/-- A variable's new number. -/
def ren (k : Int) (vars : List Int) (n : Int) : Int := k + findI (hasI n) vars
theorem findI_at {n : Int} {vars : List Int} (h : n ∈ vars) : ∃ i : Nat, findI (hasI n) vars = i ∧ vars[i]? = some n ∧ i < vars.length := by
  have h1 : vars.any (hasI n) = true := any_has.2 h
  refine ⟨vars.findIdx (hasI n), by unfold findI; rw [if_pos h1], ?_, ?_⟩
  · have h2 : vars.findIdx (hasI n) < vars.length := List.findIdx_lt_length_of_exists (by obtain ⟨x, hx, hp⟩ := List.any_eq_true.1 h1; exact ⟨x, hx, hp⟩)
    rw [List.getElem?_eq_getElem h2]
    have h3 := List.findIdx_getElem (w := h2)
    unfold hasI at h3
    rw [beq_iff_eq] at h3
    exact congrArg some h3.symm
  · exact List.findIdx_lt_length_of_exists (by obtain ⟨x, hx, hp⟩ := List.any_eq_true.1 h1; exact ⟨x, hx, hp⟩)
theorem ren_inj (k : Int) (vars : List Int) : Inj (ren k vars) vars := fun a ha b hb he => by
  obtain ⟨i, h1, h2, _⟩ := findI_at ha
  obtain ⟨j, h3, h4, _⟩ := findI_at hb
  unfold ren at he
  rw [h1, h3] at he
  have : i = j := by omega
  subst this
  rw [h2] at h4
  exact Option.some.inj h4
theorem ren_bound (k : Int) (vars : List Int) (n : Int) : k - 1 ≤ ren k vars n ∧ ren k vars n ≤ k + vars.length := by
  unfold ren findI
  split
  · have := List.findIdx_le_length (p := hasI n) (xs := vars)
    omega
  · omega
def rn (k : Int) (l : List Tm) : List Tm := l.map (tRn (ren k (tVars l)))
theorem rn_len (k : Int) (l : List Tm) : (rn k l).length = l.length := by simp [rn]
theorem vars_in {l : List Tm} (hr : ∀ a ∈ l, tRight a = true) : ∀ a ∈ l, In (tVars l) a := fun a ha =>
  ⟨hr a ha, fun v hv => (walks_mem hr [] v).2 (.inr (mem_tVL.2 ⟨a, ha, hv⟩))⟩
/-- Renamed, and named anew: the same. -/
theorem rn_rn (k : Int) {l : List Tm} (hr : ∀ a ∈ l, tRight a = true) : rn 0 (rn k l) = rn 0 l ∧ (tVars (rn k l)).length = (tVars l).length := by
  have hin := vars_in hr
  have hv : tVars (rn k l) = (tVars l).map (ren k (tVars l)) := vars_map (ren_inj k _) hin
  refine ⟨?_, by rw [hv, List.length_map]⟩
  show (rn k l).map (tRn (ren 0 (tVars (rn k l)))) = l.map (tRn (ren 0 (tVars l)))
  rw [hv]
  unfold rn
  rw [List.map_map]
  refine List.map_congr_left fun a ha => ?_
  show tRn _ (tRn _ a) = _
  rw [tRn_comp]
  refine tRn_congr a (hr a ha) fun n hn => ?_
  show 0 + findI (hasI (ren k (tVars l) n)) ((tVars l).map (ren k (tVars l))) = 0 + findI (hasI n) (tVars l)
  rw [findI_map (ren_inj k _) (fun a h => h) ((hin a ha).vs n hn)]
theorem vars_six {Vs : List Int} {l : List Tm} (h : ∀ a ∈ l, In Vs a) : (tVars l).length ≤ Vs.length := by
  refine nodup_len (walks_nodup [] l List.nodup_nil) fun a ha => ?_
  rcases (walks_mem (fun a ha => (h a ha).rt) [] a).1 ha with h1 | h1
  · cases h1
  · obtain ⟨b, hb, h2⟩ := mem_tVL.1 h1
    exact (h b hb).vs a h2

/-- A row of terms that is made one by one. -/
structure LR (tg : TypeId) (w wr : World) (l : List Tm) (us : List TV) (A : Option Addr) (j c : Nat) : Prop where
  own : wr.ownsRow w.heap.size tg 4 (.slice A j c) j (us.flatMap tvE)
  trs : Trs wr (fun b => b ∉ ownL (.slice A j c)) l us
  len : l.length = j
  keep : Keeps w wr []
section
variable {tg : TypeId} {w wr : World} {l : List Tm} {us : List TV} {A : Option Addr} {j c : Nat}
theorem LR.start (tg : TypeId) {w wr : World} (k : Keeps w wr []) : LR tg w wr [] [] none 0 0 := ⟨World.ownsRow_nil _ _ _ _, Trs.nil, rfl, k⟩
theorem LR.keep0 (h : LR tg w wr l us A j c) {W : World} (kk : Keeps wr W []) : LR tg w W l us A j c := ⟨own_keep0 h.own kk, h.trs.keep kk, h.len, h.keep.trans kk⟩
theorem LR.push (h0 : LR tg w wr l us A j c) {W W2 : World} (kk : Keeps wr W []) {t : Tm} {v : TV} (ht : Tr W (fun b => b < w.heap.size ∨ wr.heap.size ≤ b) t v) {A' : Option Addr} {c' : Nat}
    (hown : W2.ownsRow w.heap.size tg 4 (.slice A' (j + 1) c') (j + 1) (us.flatMap tvE ++ tvE v)) (hg : W.grownBy W2 (Value.slice A j c).ownBlock)
    (hat : (Value.slice A' (j + 1) c').ownBlock = (Value.slice A j c).ownBlock ∨ (Value.slice A' (j + 1) c').ownBlock = some W.heap.size) : LR tg w W2 (l ++ [t]) (us ++ [v]) A' (j + 1) c' := by
  have h := h0.keep0 kk
  have kg : Keeps W W2 (ownL (.slice A j c)) := Keeps.ofGrown hg
  have hno : ∀ b, b < W.heap.size → b ∉ ownL (.slice A j c) → b ∉ ownL (.slice A' (j + 1) c') := fun b hb hn hm => by
    unfold ownL at hn hm
    simp only [Option.mem_toList] at hn hm
    rcases hat with h1 | h1
    · rw [h1] at hm; exact hn hm
    · rw [h1] at hm; simp at hm; omega
  have h1 := (h.trs.here.keepL kg (fun b hb h => h.1 hb)).mono (S' := fun b => b ∉ ownL (.slice A' (j + 1) c')) fun b hb => hno b hb.2 hb.1
  have h2 : Tr W (fun b => b ∉ ownL (.slice A j c)) t v := ht.mono fun b hb hm => by
    have := own_lt h0.own hm
    omega
  exact ⟨by rw [List.flatMap_append]; simpa using hown, h1.snoc ((h2.here.keepL kg (fun b hb h => h.1 hb)).mono fun b hb => hno b hb.2 hb.1), by simp [h.len], h.keep.app h.own (Nat.le_refl _) hg⟩
end
/-- A row of terms is told. -/
def LDone (w : World) (l : List Tm) (e : Ending) (w' : World) : Prop := ∃ A c us, e = .returned (.slice A l.length c) ∧ Trs w' (fun _ => True) l us ∧ Rd w' A (us.flatMap tvE) ∧ Keeps w w' []
theorem LR.done {tg : TypeId} {w wr : World} {l : List Tm} {us : List TV} {A : Option Addr} {j c : Nat} (h : LR tg w wr l us A j c) : LDone w l (.returned (.slice A j c)) wr :=
  ⟨A, c, us, by rw [h.len], h.trs.mono fun _ _ => trivial, Rd.of_own h.own, h.keep⟩
end Go.Proofs.YtnonfmaehfmigaaGreatDoor
