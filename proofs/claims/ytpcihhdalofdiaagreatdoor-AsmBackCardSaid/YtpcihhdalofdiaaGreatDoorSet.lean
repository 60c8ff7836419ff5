/- A set that the call itself keeps: a map to true, asked before each store. Over any program. -/
import Derived.Test.YtpcihhdalofdiaaGreatDoorData
import Derived.Maps.OwnOps
import Derived.Maps.OwnSet
import Derived.DeepKeys4
namespace Go.Proofs.YtpcihhdalofdiaaGreatDoor
open Go Go.RowKit Go.Maps

/-- Block b is a map whose keys are these, each at true. -/
def SetIs (w : World) (P : Program) (K : TypeId) (b : Nat) (keys : List Value) : Prop :=
  ∃ es clock, w.heap[b]? = some (.map es clock) ∧ es.toList.map (·.key) = keys ∧ (∀ e ∈ es.toList, e.val = .bool true) ∧ ∀ e ∈ es.toList, ∃ l, keyOf P K e.key = some l

section
variable {P : Program} {w : World} {K : TypeId} {b : Nat} {keys : List Value}
theorem SetIs.new (w : World) (P : Program) (K : TypeId) : SetIs (w.alloc (.map #[] 0)) P K w.heap.size [] := ⟨#[], 0, heap_alloc_new w _, rfl, by simp, by simp⟩
theorem SetIs.lt (h : SetIs w P K b keys) : b < w.heap.size := by
  obtain ⟨_, _, h, _⟩ := h
  exact (Array.getElem?_eq_some_iff.1 h).1
theorem SetIs.keep {w' : World} {S : List Nat} (h : SetIs w P K b keys) (k : Keeps w w' S) (hb : b ∉ S) : SetIs w' P K b keys := by
  have hl := h.lt
  obtain ⟨es, clock, h1, h2⟩ := h
  exact ⟨es, clock, (k.block b hl hb).trans h1, h2⟩
theorem SetIs.look {T E : TypeId} (h : SetIs w P K b keys) (Kd : Keyed P K) (ht : P.underlying T = some (.map K E)) (hz : (zeroValue E).run P w = .ok (.bool false) w) {key : Value} {l : Lit} (hk : keyOf P K key = some l) :
    ((Instr.lookup T (.map (some b)) key false).run P w = .ok (.bool false) w ∧ key ∉ keys) ∨ ((Instr.lookup T (.map (some b)) key false).run P w = .ok (.bool true) w ∧ key ∈ keys) := by
  obtain ⟨es, clock, hb, hkeys, hv, hl⟩ := h
  rcases Kd.find w hk es.toList hl with ⟨h1, h2⟩ | ⟨j, e0, h1, h2, h3⟩
  · refine .inl ⟨by simp [Instr.lookup, run_underlying ht, MapKept.run_getObj_map hb, Kd.check w _ hk, h1, hz, Result.andThen], ?_⟩
    rw [← hkeys]
    intro hm
    obtain ⟨e, he, hke⟩ := List.mem_map.1 hm
    exact h2 e he hke
  · have hm : e0 ∈ es.toList := List.mem_of_getElem? h2
    refine .inr ⟨by simp [Instr.lookup, run_underlying ht, MapKept.run_getObj_map hb, Kd.check w _ hk, h1, Result.andThen, hv e0 hm], ?_⟩
    rw [← hkeys]
    exact List.mem_map.2 ⟨e0, hm, h3⟩
theorem SetIs.store {T E : TypeId} (h : SetIs w P K b keys) (Kd : Keyed P K) (ht : P.underlying T = some (.map K E)) {key : Value} {l : Lit} (hk : keyOf P K key = some l) (hn : key ∉ keys) :
    ∃ w', (Instr.mapUpdate T (.map (some b)) key (.bool true)).run P w = .ok () w' ∧ SetIs w' P K b (keys ++ [key]) ∧ Keeps w w' [b] := by
  have hlt := h.lt
  obtain ⟨es, clock, hb, hkeys, hv, hl⟩ := h
  rcases Kd.find w hk es.toList hl with ⟨h1, h2⟩ | ⟨j, e0, h1, h2, h3⟩
  · refine ⟨ChangeMaps.setBlock w b (.map (es.push ⟨key, .bool true, clock⟩) (clock + 1)), by simp [Instr.mapUpdate, run_underlying ht, MapKept.run_getObj_map hb, Kd.check w false hk, h1, MapKept.run_setObj_map _ hb, Result.andThen, ChangeMaps.setBlock], ⟨es.push ⟨key, .bool true, clock⟩, clock + 1, ?_, ?_, ?_, ?_⟩, ?_⟩
    · simp [ChangeMaps.setBlock, hlt]
    · rw [Array.toList_push, List.map_append, hkeys]; rfl
    · intro e he
      rw [Array.toList_push, List.mem_append] at he
      rcases he with he | he
      · exact hv e he
      · simp at he; subst he; rfl
    · intro e he
      rw [Array.toList_push, List.mem_append] at he
      rcases he with he | he
      · exact hl e he
      · simp at he; subst he; exact ⟨l, hk⟩
    · refine ⟨rfl, rfl, rfl, by simp [ChangeMaps.setBlock], fun k _ hkn => ?_⟩
      simp only [ChangeMaps.setBlock]
      rw [Array.getElem?_setIfInBounds_ne (by rintro rfl; exact hkn (by simp))]
  · exact absurd (by rw [← hkeys]; exact List.mem_map.2 ⟨e0, List.mem_of_getElem? h2, h3⟩) hn
end

/-- Is one of a list there twice? -/
def dupB {α : Type} [DecidableEq α] : List α → Bool
  | [] => false
  | x :: l => l.contains x || dupB l
/-- .. said from the front: one that was there. -/
theorem dupB_snoc {α : Type} [DecidableEq α] : ∀ (l : List α) (x : α), dupB (l ++ [x]) = (dupB l || l.contains x)
  | [], x => by simp [dupB]
  | y :: l, x => by
    rw [List.cons_append, dupB, dupB, dupB_snoc l x]
    simp only [List.contains_eq_mem, List.mem_append, List.mem_cons]
    by_cases h1 : y ∈ l <;> by_cases h2 : x ∈ l <;> by_cases h3 : y = x <;> cases dupB l <;> simp [h1, h2, h3, eq_comm]
theorem dupB_app {α : Type} [DecidableEq α] (l r : List α) (h : dupB l = true) : dupB (l ++ r) = true := by
  induction l with
  | nil => cases h
  | cons x l ih =>
    rw [List.cons_append, dupB]
    rw [dupB] at h
    rcases Bool.or_eq_true _ _ ▸ h with h | h
    · simp only [List.contains_eq_mem, decide_eq_true_eq] at h
      simp [h]
    · simp [ih h]
theorem dupB_hit {α : Type} [DecidableEq α] {l : List α} {k : Nat} {x : α} (hx : l[k]? = some x) (h : x ∈ l.take k) : dupB l = true := by
  have h1 : dupB (l.take (k + 1)) = true := by
    rw [List.take_add_one, hx, Option.toList_some, dupB_snoc]
    simp [h]
  have := dupB_app (l.take (k + 1)) (l.drop (k + 1)) h1
  rwa [List.take_append_drop] at this
theorem dupB_miss {α : Type} [DecidableEq α] {l : List α} {k : Nat} {x : α} (hx : l[k]? = some x) (h : x ∉ l.take k) (hd : dupB (l.take k) = false) : dupB (l.take (k + 1)) = false := by
  rw [List.take_add_one, hx, Option.toList_some, dupB_snoc, hd]
  simp [h]
end Go.Proofs.YtpcihhdalofdiaaGreatDoor
