/- Layer 6's instructions: the table of all. Printed by gen_op.py. -/
import Derived.Test.YtpcihhdalofdiaaGreatDoorKeep
import Derived.Test.YtpcihhdalofdiaaGreatDoorAppend
namespace Go.Proofs.YtpcihhdalofdiaaGreatDoor
open Go.RowKit

def opNames : List ByteArray := [⟨#[102, 97, 105, 108]⟩, ⟨#[103, 101, 116, 118, 97, 114]⟩, ⟨#[103, 101, 116, 118, 97, 108]⟩, ⟨#[103, 101, 116, 99, 111, 110]⟩, ⟨#[103, 101, 116, 115, 116, 114]⟩, ⟨#[103, 101, 116, 108, 105, 115]⟩, ⟨#[117, 110, 105, 118, 97, 114]⟩, ⟨#[117, 110, 105, 118, 97, 108]⟩, ⟨#[117, 110, 105, 99, 111, 110]⟩, ⟨#[117, 110, 105, 118, 111, 105, 100]⟩, ⟨#[112, 117, 116, 118, 97, 114]⟩, ⟨#[112, 117, 116, 118, 97, 108]⟩, ⟨#[112, 117, 116, 99, 111, 110]⟩, ⟨#[112, 117, 116, 115, 116, 114]⟩, ⟨#[112, 117, 116, 108, 105, 115]⟩, ⟨#[97, 108, 108, 111, 99, 97, 116, 101]⟩, ⟨#[100, 101, 97, 108, 108, 111, 99, 97, 116, 101]⟩, ⟨#[99, 97, 108, 108]⟩, ⟨#[101, 120, 101, 99, 117, 116, 101]⟩, ⟨#[112, 114, 111, 99, 101, 101, 100]⟩, ⟨#[116, 114, 121]⟩, ⟨#[114, 101, 116, 114, 121]⟩, ⟨#[116, 114, 117, 115, 116]⟩, ⟨#[110, 101, 99, 107, 99, 117, 116]⟩, ⟨#[103, 101, 116, 108, 101, 118, 101, 108]⟩, ⟨#[99, 117, 116]⟩, ⟨#[115, 119, 105, 116, 99, 104]⟩]
def opLists : List (List Int) := [[], [1, 2], [1, 2], [3, 2], [4, 2], [2], [1], [1], [3], [5], [1, 2], [1, 2], [3, 2], [4, 2], [2], [6], [], [7], [7], [], [8], [8], [], [], [9], [9], [8, 8, 8, 8]]
def opName (k : Nat) : ByteArray := opNames.getD k ⟨#[]⟩
def opList (k : Nat) : List Int := opLists.getD k []

theorem Blk.atNew {w : World} {n : Nat} (t : TypeId) (cs : Array Value) (h : n = w.heap.size) : Blk (w.alloc (.cells cs t)) n t cs := by
  subst h
  exact Blk.new w t cs
theorem Nums.of_blk {K : IntKind} {w : World} {g : Nat} {t : TypeId} {cs : Array Value} (l : List Int) (h : Blk w g t cs) (hc : cs = (l.map (Value.int K)).toArray) : Nums K w w.heap.size (some ⟨g, 0, none⟩) l := by
  intro k hk
  have hcell := h.cell k
  rw [hc] at hcell
  simp only [List.getElem?_toArray, List.getElem?_map, List.getElem?_eq_getElem hk, Option.map_some] at hcell
  exact ⟨g, 0, l[k], rfl, h.lt, by rw [Nat.zero_add]; exact hcell, List.getElem?_eq_getElem hk⟩

/-- The table, laid anew. -/
def RowsMade (w : World) (e : Ending) (w' : World) : Prop :=
  ∃ b, e = .returned (.slice (some ⟨b, 0, none⟩) 27 27) ∧ Keeps w w' [] ∧ w.heap.size ≤ b ∧ ∀ k, k < 27 → ∃ A, w'.cell? ⟨b, k * 2, none⟩ = some (.string (opName k)) ∧ w'.cell? ⟨b, k * 2 + 1, none⟩ = some (.slice A (opList k).length (opList k).length) ∧
    Nums .i64 w' w'.heap.size A (opList k)

theorem rowsMade_mk {w W' : World} {e : Ending} (n : Nat) (hn : n = w.heap.size) (k0 : Keeps w W' [])
    (b0 : Blk W' (n + 0) 3 #[.int .i64 1, .int .i64 2])
    (b1 : Blk W' (n + 1) 3 #[.int .i64 3, .int .i64 2])
    (b2 : Blk W' (n + 2) 3 #[.int .i64 4, .int .i64 2])
    (b3 : Blk W' (n + 3) 3 #[.int .i64 2])
    (b4 : Blk W' (n + 4) 3 #[.int .i64 1])
    (b5 : Blk W' (n + 5) 3 #[.int .i64 1])
    (b6 : Blk W' (n + 6) 3 #[.int .i64 3])
    (b7 : Blk W' (n + 7) 3 #[.int .i64 5])
    (b8 : Blk W' (n + 8) 3 #[.int .i64 2])
    (b9 : Blk W' (n + 9) 3 #[.int .i64 6])
    (b10 : Blk W' (n + 10) 3 #[.int .i64 7])
    (b11 : Blk W' (n + 11) 3 #[.int .i64 7])
    (b12 : Blk W' (n + 12) 3 #[.int .i64 8])
    (b13 : Blk W' (n + 13) 3 #[.int .i64 8])
    (b14 : Blk W' (n + 14) 3 #[.int .i64 9])
    (b15 : Blk W' (n + 15) 3 #[.int .i64 9])
    (b16 : Blk W' (n + 16) 3 #[.int .i64 8, .int .i64 8, .int .i64 8, .int .i64 8])
    (bt : Blk W' (n + 17) 140 #[.string ⟨#[102, 97, 105, 108]⟩, .slice none 0 0, .string ⟨#[103, 101, 116, 118, 97, 114]⟩, .slice (some ⟨n + 0, 0, none⟩) 2 2, .string ⟨#[103, 101, 116, 118, 97, 108]⟩, .slice (some ⟨n + 0, 0, none⟩) 2 2, .string ⟨#[103, 101, 116, 99, 111, 110]⟩, .slice (some ⟨n + 1, 0, none⟩) 2 2, .string ⟨#[103, 101, 116, 115, 116, 114]⟩, .slice (some ⟨n + 2, 0, none⟩) 2 2, .string ⟨#[103, 101, 116, 108, 105, 115]⟩, .slice (some ⟨n + 3, 0, none⟩) 1 1, .string ⟨#[117, 110, 105, 118, 97, 114]⟩, .slice (some ⟨n + 4, 0, none⟩) 1 1, .string ⟨#[117, 110, 105, 118, 97, 108]⟩, .slice (some ⟨n + 5, 0, none⟩) 1 1, .string ⟨#[117, 110, 105, 99, 111, 110]⟩, .slice (some ⟨n + 6, 0, none⟩) 1 1, .string ⟨#[117, 110, 105, 118, 111, 105, 100]⟩, .slice (some ⟨n + 7, 0, none⟩) 1 1, .string ⟨#[112, 117, 116, 118, 97, 114]⟩, .slice (some ⟨n + 0, 0, none⟩) 2 2, .string ⟨#[112, 117, 116, 118, 97, 108]⟩, .slice (some ⟨n + 0, 0, none⟩) 2 2, .string ⟨#[112, 117, 116, 99, 111, 110]⟩, .slice (some ⟨n + 1, 0, none⟩) 2 2, .string ⟨#[112, 117, 116, 115, 116, 114]⟩, .slice (some ⟨n + 2, 0, none⟩) 2 2, .string ⟨#[112, 117, 116, 108, 105, 115]⟩, .slice (some ⟨n + 8, 0, none⟩) 1 1, .string ⟨#[97, 108, 108, 111, 99, 97, 116, 101]⟩, .slice (some ⟨n + 9, 0, none⟩) 1 1, .string ⟨#[100, 101, 97, 108, 108, 111, 99, 97, 116, 101]⟩, .slice none 0 0, .string ⟨#[99, 97, 108, 108]⟩, .slice (some ⟨n + 10, 0, none⟩) 1 1, .string ⟨#[101, 120, 101, 99, 117, 116, 101]⟩, .slice (some ⟨n + 11, 0, none⟩) 1 1, .string ⟨#[112, 114, 111, 99, 101, 101, 100]⟩, .slice none 0 0, .string ⟨#[116, 114, 121]⟩, .slice (some ⟨n + 12, 0, none⟩) 1 1, .string ⟨#[114, 101, 116, 114, 121]⟩, .slice (some ⟨n + 13, 0, none⟩) 1 1, .string ⟨#[116, 114, 117, 115, 116]⟩, .slice none 0 0, .string ⟨#[110, 101, 99, 107, 99, 117, 116]⟩, .slice none 0 0, .string ⟨#[103, 101, 116, 108, 101, 118, 101, 108]⟩, .slice (some ⟨n + 14, 0, none⟩) 1 1, .string ⟨#[99, 117, 116]⟩, .slice (some ⟨n + 15, 0, none⟩) 1 1, .string ⟨#[115, 119, 105, 116, 99, 104]⟩, .slice (some ⟨n + 16, 0, none⟩) 4 4])
    (he : e = .returned (.slice (some ⟨n + 17, 0, none⟩) 27 27)) : RowsMade w e W' := by
  subst hn he
  refine ⟨w.heap.size + 17, rfl, k0, by omega, fun k hk => ?_⟩
  match k, hk with
  | 0, _ => exact ⟨none, (bt.cell 0).trans rfl, (bt.cell 1).trans rfl, Nums.nil⟩
  | 1, _ => exact ⟨_, (bt.cell 2).trans rfl, (bt.cell 3).trans rfl, Nums.of_blk [1, 2] b0 rfl⟩
  | 2, _ => exact ⟨_, (bt.cell 4).trans rfl, (bt.cell 5).trans rfl, Nums.of_blk [1, 2] b0 rfl⟩
  | 3, _ => exact ⟨_, (bt.cell 6).trans rfl, (bt.cell 7).trans rfl, Nums.of_blk [3, 2] b1 rfl⟩
  | 4, _ => exact ⟨_, (bt.cell 8).trans rfl, (bt.cell 9).trans rfl, Nums.of_blk [4, 2] b2 rfl⟩
  | 5, _ => exact ⟨_, (bt.cell 10).trans rfl, (bt.cell 11).trans rfl, Nums.of_blk [2] b3 rfl⟩
  | 6, _ => exact ⟨_, (bt.cell 12).trans rfl, (bt.cell 13).trans rfl, Nums.of_blk [1] b4 rfl⟩
  | 7, _ => exact ⟨_, (bt.cell 14).trans rfl, (bt.cell 15).trans rfl, Nums.of_blk [1] b5 rfl⟩
  | 8, _ => exact ⟨_, (bt.cell 16).trans rfl, (bt.cell 17).trans rfl, Nums.of_blk [3] b6 rfl⟩
  | 9, _ => exact ⟨_, (bt.cell 18).trans rfl, (bt.cell 19).trans rfl, Nums.of_blk [5] b7 rfl⟩
  | 10, _ => exact ⟨_, (bt.cell 20).trans rfl, (bt.cell 21).trans rfl, Nums.of_blk [1, 2] b0 rfl⟩
  | 11, _ => exact ⟨_, (bt.cell 22).trans rfl, (bt.cell 23).trans rfl, Nums.of_blk [1, 2] b0 rfl⟩
  | 12, _ => exact ⟨_, (bt.cell 24).trans rfl, (bt.cell 25).trans rfl, Nums.of_blk [3, 2] b1 rfl⟩
  | 13, _ => exact ⟨_, (bt.cell 26).trans rfl, (bt.cell 27).trans rfl, Nums.of_blk [4, 2] b2 rfl⟩
  | 14, _ => exact ⟨_, (bt.cell 28).trans rfl, (bt.cell 29).trans rfl, Nums.of_blk [2] b8 rfl⟩
  | 15, _ => exact ⟨_, (bt.cell 30).trans rfl, (bt.cell 31).trans rfl, Nums.of_blk [6] b9 rfl⟩
  | 16, _ => exact ⟨none, (bt.cell 32).trans rfl, (bt.cell 33).trans rfl, Nums.nil⟩
  | 17, _ => exact ⟨_, (bt.cell 34).trans rfl, (bt.cell 35).trans rfl, Nums.of_blk [7] b10 rfl⟩
  | 18, _ => exact ⟨_, (bt.cell 36).trans rfl, (bt.cell 37).trans rfl, Nums.of_blk [7] b11 rfl⟩
  | 19, _ => exact ⟨none, (bt.cell 38).trans rfl, (bt.cell 39).trans rfl, Nums.nil⟩
  | 20, _ => exact ⟨_, (bt.cell 40).trans rfl, (bt.cell 41).trans rfl, Nums.of_blk [8] b12 rfl⟩
  | 21, _ => exact ⟨_, (bt.cell 42).trans rfl, (bt.cell 43).trans rfl, Nums.of_blk [8] b13 rfl⟩
  | 22, _ => exact ⟨none, (bt.cell 44).trans rfl, (bt.cell 45).trans rfl, Nums.nil⟩
  | 23, _ => exact ⟨none, (bt.cell 46).trans rfl, (bt.cell 47).trans rfl, Nums.nil⟩
  | 24, _ => exact ⟨_, (bt.cell 48).trans rfl, (bt.cell 49).trans rfl, Nums.of_blk [9] b14 rfl⟩
  | 25, _ => exact ⟨_, (bt.cell 50).trans rfl, (bt.cell 51).trans rfl, Nums.of_blk [9] b15 rfl⟩
  | 26, _ => exact ⟨_, (bt.cell 52).trans rfl, (bt.cell 53).trans rfl, Nums.of_blk [8, 8, 8, 8] b16 rfl⟩
  | k + 27, h => exact absurd h (by omega)

set_option maxRecDepth 100000 in
set_option maxHeartbeats 3200000 in
theorem rows_any (w : World) : Calls Tryz.prog 111 #[] w (RowsMade w) := by
  go_enter Tryz.func111, Tryz.ntmps111
  go_wp2_with fail
  go_ret
  refine rowsMade_mk w.heap.size rfl ?_ ?_ ?_ ?_ ?_ ?_ ?_ ?_ ?_ ?_ ?_ ?_ ?_ ?_ ?_ ?_ ?_ ?_ ?_ rfl
  · repeat (first | exact Keeps.refl _ _ | apply Keeps.alloc)
  · iterate 17 apply Blk.alloc
    exact Blk.atNew _ _ rfl
  · iterate 16 apply Blk.alloc
    exact Blk.atNew _ _ (by simp only [World.size_alloc])
  · iterate 15 apply Blk.alloc
    exact Blk.atNew _ _ (by simp only [World.size_alloc])
  · iterate 14 apply Blk.alloc
    exact Blk.atNew _ _ (by simp only [World.size_alloc])
  · iterate 13 apply Blk.alloc
    exact Blk.atNew _ _ (by simp only [World.size_alloc])
  · iterate 12 apply Blk.alloc
    exact Blk.atNew _ _ (by simp only [World.size_alloc])
  · iterate 11 apply Blk.alloc
    exact Blk.atNew _ _ (by simp only [World.size_alloc])
  · iterate 10 apply Blk.alloc
    exact Blk.atNew _ _ (by simp only [World.size_alloc])
  · iterate 9 apply Blk.alloc
    exact Blk.atNew _ _ (by simp only [World.size_alloc])
  · iterate 8 apply Blk.alloc
    exact Blk.atNew _ _ (by simp only [World.size_alloc])
  · iterate 7 apply Blk.alloc
    exact Blk.atNew _ _ (by simp only [World.size_alloc])
  · iterate 6 apply Blk.alloc
    exact Blk.atNew _ _ (by simp only [World.size_alloc])
  · iterate 5 apply Blk.alloc
    exact Blk.atNew _ _ (by simp only [World.size_alloc])
  · iterate 4 apply Blk.alloc
    exact Blk.atNew _ _ (by simp only [World.size_alloc])
  · iterate 3 apply Blk.alloc
    exact Blk.atNew _ _ (by simp only [World.size_alloc])
  · iterate 2 apply Blk.alloc
    exact Blk.atNew _ _ (by simp only [World.size_alloc])
  · iterate 1 apply Blk.alloc
    exact Blk.atNew _ _ (by simp only [World.size_alloc])
  · exact Blk.atNew _ _ (by simp only [World.size_alloc])
end Go.Proofs.YtpcihhdalofdiaaGreatDoor
