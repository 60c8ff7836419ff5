/- Terms: the program's Vars. -/
import Derived.Test.YtjbomjnkjcafcaaTmMk
import Derived.Test.YtjbomjnkjcafcaaTmSize
namespace Go.Proofs.Ytjbomjnkjcafcaa
open Go.RowKit

theorem el_int : ElemT Try.prog 71 3 1 := elemT_of (b := 8) (z := .int .i64 0) Try.underlying71 (by kernel_rfl) (by omega) rfl (by omega)
def hasI (x : Int) : Int → Bool := fun y => x == y
set_option maxHeartbeats 400000 in
theorem indexI_any (x : Int) (A : Option Addr) (n c : Nat) (l : List Int) (w : World) (hl : l.length = n) (hn : n ≤ 9223372036854775807) (hA : Nums .i64 w w.heap.size A l) :
    Calls Try.prog 39 #[.slice A n c, .int .i64 x] w fun e w' => e = .returned (.int .i64 (findI (hasI x) l)) ∧ w = w' := by
  have HL := Lib.hid hl
  have HA := Lib.hid hA
  clear hl hA
  go_enter Try.func39, Try.ntmps39
  go_wp2_with fail
  go_loop [8] (fun i => ∃ k : Nat, k ≤ n ∧ i = .int .i64 k ∧ Hid (∀ y ∈ l.take k, hasI x y = false)) (fun i => n - (intOf i).toNat)
  case atStart => exact ⟨0, Nat.zero_le _, rfl, fun y hy => by simp at hy⟩
  case round =>
    obtain ⟨k, hk, rfl, HB⟩ := hrel
    by_cases hlt : k < n
    · obtain ⟨b, off, y, rfl, _, hc, hx⟩ := HA.out k (by rw [HL.out]; exact hlt)
      have HX := Lib.hid hx
      clear hx
      cases hp : (x == y) with
      | true =>
        have HI : Hid (findI (hasI x) l = (k : Int)) := findI_some HX.out hp HB.out
        go_wp2_with fail
        go_ret
        exact ⟨by rw [HI.out]; rfl, rfl⟩
      | false =>
        have HB2 : Hid (∀ y ∈ l.take (k + 1), hasI x y = false) := take_snoc_all HX.out hp HB.out
        go_wp2_with fail
        go_round
        case rel => exact ⟨k + 1, by omega, by go_num, HB2⟩
        case measure => simp [intOf]; omega
    · obtain rfl : n = k := by omega
      have HI : Hid (findI (hasI x) l = -1) := findI_none (by have := HB.out; rwa [List.take_of_length_le (by rw [HL.out]; omega)] at this)
      go_wp2_with fail
      go_ret
      exact ⟨by rw [HI.out]; rfl, rfl⟩
set_option maxHeartbeats 400000 in
theorem containsI_any (x : Int) (A : Option Addr) (n c : Nat) (l : List Int) (w : World) (hl : l.length = n) (hn : n ≤ 9223372036854775807) (hA : Nums .i64 w w.heap.size A l) :
    Calls Try.prog 42 #[.slice A n c, .int .i64 x] w fun e w' => e = .returned (.bool (l.any (hasI x))) ∧ w = w' := by
  have HF := Lib.hid (findI_nonneg (hasI x) l)
  have HC := Lib.hid (indexI_any x A n c l w hl hn hA)
  clear hl hA hn
  generalize findI (hasI x) l = f at *
  go_enter Try.func42, Try.ntmps42
  go_wp2_with (go_at_call 39; refine HC.out.mono ?_; rintro e w' ⟨rfl, rfl⟩)
  go_ret
  exact ⟨by rw [← HF.out]; rfl, rfl⟩

/-! ### Which variables -/
def addV (acc : List Int) (n : Int) : List Int := if acc.any (hasI n) then acc else acc ++ [n]
mutual
def tWalk : List Int → Tm → List Int
  | acc, .mk k n _ l => tWalks (if k = 0 then addV acc n else acc) l
def tWalks : List Int → List Tm → List Int
  | acc, [] => acc
  | acc, a :: l => tWalks (tWalk acc a) l
end
theorem tWalks_snoc : ∀ (acc : List Int) (l : List Tm) (a : Tm), tWalks acc (l ++ [a]) = tWalk (tWalks acc l) a
  | acc, [], a => by simp [tWalks]
  | acc, b :: l, a => by rw [List.cons_append, tWalks, tWalks, tWalks_snoc (tWalk acc b) l a]
theorem addV_len (acc : List Int) (n : Int) : (addV acc n).length ≤ acc.length + 1 := by unfold addV; split <;> simp
mutual
theorem tWalk_len : ∀ (acc : List Int) (t : Tm), (tWalk acc t).length ≤ acc.length + tSize t
  | acc, .mk k n s l => by
    rw [tWalk, tSize]
    have h1 := tWalks_len (if k = 0 then addV acc n else acc) l
    have h2 : (if k = 0 then addV acc n else acc).length ≤ acc.length + 1 := by split; exact addV_len acc n; omega
    omega
theorem tWalks_len : ∀ (acc : List Int) (l : List Tm), (tWalks acc l).length ≤ acc.length + tSizes l
  | acc, [] => by simp [tWalks]
  | acc, a :: l => by
    rw [tWalks, tSizes]
    have h1 := tWalk_len acc a
    have h2 := tWalks_len (tWalk acc a) l
    omega
end
/-- Blocks that hold no numbers, and all below a base, stay, but for one. -/
structure VK (base ob : Nat) (w w' : World) : Prop where
  os : w'.os = w.os
  tape : w'.tape = w.tape
  output : w'.output = w.output
  size : w.heap.size ≤ w'.heap.size
  block : ∀ k, k < w.heap.size → k ≠ ob → (k < base ∨ ∃ cs t fr, w.heap[k]? = some (.cells cs t fr) ∧ t ≠ 3) → w'.heap[k]? = w.heap[k]?
theorem VK.of_keeps {base ob : Nat} {w w' : World} (k : Keeps w w' []) : VK base ob w w' := ⟨k.os, k.tape, k.output, k.size, fun i hi _ _ => k.block i hi (by simp)⟩
theorem VK.trans {base ob : Nat} {a b c : World} (h : VK base ob a b) (k : VK base ob b c) : VK base ob a c :=
  ⟨k.os.trans h.os, k.tape.trans h.tape, k.output.trans h.output, Nat.le_trans h.size k.size, fun i hi hn ht => by
    have h1 := h.block i hi hn ht
    refine (k.block i (Nat.lt_of_lt_of_le hi h.size) hn ?_).trans h1
    rcases ht with ht | ⟨cs, t, fr, hc, hne⟩
    · exact .inl ht
    · exact .inr ⟨cs, t, fr, h1.trans hc, hne⟩⟩
theorem VK.blk {base ob : Nat} {w w' : World} (k : VK base ob w w') {g : Nat} {t : TypeId} {cs : Array Value} (h : Blk w g t cs) (hn : g ≠ ob) (ht : t ≠ 3) : Blk w' g t cs :=
  (k.block g h.lt hn (.inr ⟨cs, t, (0, 0), h, ht⟩)).trans h
theorem VK.low {base ob : Nat} {w w' : World} (k : VK base ob w w') (hb : base ≤ ob) {b off : Nat} (hlt : b < base) (hs : b < w.heap.size) : w'.cell? ⟨b, off, none⟩ = w.cell? ⟨b, off, none⟩ :=
  World.cell?_of_block (k.block b hs (by omega) (.inl hlt))
/-- What was found so far. -/
def VSt (base ob : Nat) (acc : List Int) (w : World) : Prop := base ≤ ob ∧ ∃ A c, Blk w ob 71 #[.slice A acc.length c] ∧ w.ownsRow base 3 1 (.slice A acc.length c) acc.length (acc.map (Value.int .i64))
theorem VSt.keep {base ob : Nat} {acc : List Int} {w w' : World} (h : VSt base ob acc w) (k : Keeps w w' []) : VSt base ob acc w' := by
  obtain ⟨h0, A, c, hb, ho⟩ := h
  exact ⟨h0, A, c, hb.keep k (by simp), own_keep0 ho k⟩

set_option maxHeartbeats 800000 in
theorem each_any (x : Int) (base ob : Nat) (acc : List Int) (w : World) (h : VSt base ob acc w) (hb : acc.length ≤ 1000000) (hbase : base ≤ w.heap.size) :
    Calls Try.prog 51 #[.int .i64 x, .pointer (some ⟨ob, 0, none⟩)] w fun e w' => e = .returned (.tuple #[]) ∧ VSt base ob (addV acc x) w' ∧ VK base ob w w' := by
  obtain ⟨hbo, A, c, hblk, hown⟩ := h
  have hnums : Nums .i64 w w.heap.size A acc := by
    obtain ⟨A', c', hv, _, hN⟩ := Nums.of_own hown
    injection hv with h1 h2 h3
    rw [h1]
    exact hN
  have HC := Lib.hid (containsI_any x A acc.length c acc w rfl (by omega) hnums)
  have q0 := hblk.cell 0
  have f0 := hblk.frozen 0
  have HB := Lib.hid hblk
  have HO := Lib.hid hown
  obtain ⟨n, hn⟩ : ∃ n, acc.length = n := ⟨_, rfl⟩
  have HN := Lib.hid hn
  rw [hn] at HC HB HO q0 hb
  clear hblk hown hnums hn
  go_enter Try.func51, Try.ntmps51
  cases hh : acc.any (hasI x) with
  | true =>
    rw [hh] at HC
    have HA : Hid (addV acc x = acc) := by show _ = _; rw [addV, if_pos hh]
    clear hh
    go_wp2_with fail
    refine HC.out.mono ?_
    rintro e w1 ⟨rfl, rfl⟩
    go_wp2_with fail
    go_end0
    exact ⟨rfl, by rw [HA.out]; exact ⟨hbo, A, c, by rw [HN.out]; exact HB.out, by rw [HN.out]; exact HO.out⟩, VK.of_keeps (Keeps.refl _ _)⟩
  | false =>
    rw [hh] at HC
    have HA : Hid (addV acc x = acc ++ [x]) := by show _ = _; rw [addV, if_neg (by rw [hh]; simp)]
    clear hh
    go_wp2_with fail
    refine HC.out.mono ?_
    rintro e w1 ⟨rfl, rfl⟩
    have K5 := (Keeps.refl w []).alloc (.cells #[.int .i64 x] 3)
    go_wp2_with (at_builtin; refine wpList_app _ el_int rfl (.tmp 7) (.tmp 9) rfl base A n c _ rfl (own_keep0 HO.out K5) (some ⟨w.heap.size, 0, none⟩) 1 1 [.int .i64 x] rfl (Rd.one w _ [.int .i64 x]) rfl (by simp) (by simp [Value.oneCell']) (by omega) (by simp; omega) ?_; intro A' c' w9 hown hgrow hat; have ho5 := own_keep0 HO.out K5; have hb9 := blk_far (HB.out.keep K5 (by simp)) ho5 (by decide) hgrow; have q9 := hb9.cell 0; have f9 := hb9.frozen 0)
    have hno : ob ∉ ownL (.slice A' (n + 1) c') := own_outT hown hb9 (by decide)
    have HR : Hid (VSt base ob (acc ++ [x]) (w9.setCell ⟨ob, 0, none⟩ (.slice A' (n + 1) c')) ∧ VK base ob w (w9.setCell ⟨ob, 0, none⟩ (.slice A' (n + 1) c'))) := by
      refine ⟨⟨hbo, A', c', ?_, ?_⟩, ?_⟩
      · have := hb9.set_ 0 (.slice A' (n + 1) c')
        rw [List.length_append, HN.out]
        simpa using this
      · rw [List.length_append, HN.out, List.map_append]
        exact own_setN hown hno _ _
      · have hw5 : w.heap.size ≤ w9.heap.size := by have := hgrow.size; simp at this; omega
        refine ⟨hgrow.os, hgrow.tape, hgrow.output, by simpa [World.setCell] using hw5, fun i hi hne ht => ?_⟩
        have h1 : (w.alloc (.cells #[.int .i64 x] 3)).heap[i]? = w.heap[i]? := K5.block i hi (by simp)
        refine (Below.heap_setCell _ _ _ _ (by simpa using hne)).trans ((hgrow.block i (by simp; omega) (fun e => ?_)).trans h1)
        have hm : i ∈ ownL (.slice A n c) := by unfold ownL; rw [← e]; simp
        rcases ht with ht | ⟨cs, t, fr, hc, hnt⟩
        · have := (own_lt ho5 hm).1
          omega
        · rcases ho5.2 with ⟨h2, _⟩ | ⟨g, cap, cur, hv, _, hg, _⟩
          · rw [h2] at hm; simp [ownL, Value.ownBlock] at hm
          · rw [hv] at hm
            simp [ownL, Value.ownBlock] at hm
            subst hm
            rw [h1, hc] at hg
            simp at hg
            exact hnt hg.2.1
    clear hb9 hown hgrow hat ho5 q9 f9 hno
    go_end0
    exact ⟨rfl, by rw [HA.out]; exact HR.out.1, HR.out.2⟩

theorem Rd.vk {base ob : Nat} {w w' : World} (k : VK base ob w w') (hb : base ≤ ob) {A : Option Addr} {vs : List Value} (h : Rd w A vs) (hA : ∀ b off, A = some ⟨b, off, none⟩ → vs ≠ [] → b < base) : Rd w' A vs := by
  intro i hi
  obtain ⟨b, off, v, e, hlt, hc, hv⟩ := h i hi
  exact ⟨b, off, v, e, Nat.lt_of_lt_of_le hlt k.size, (k.low hb (hA b off e (fun h0 => by subst h0; simp at hi)) hlt).trans hc, hv⟩
theorem Tr.vk {base ob : Nat} {w w' : World} (k : VK base ob w w') (hb : base ≤ ob) {t : Tm} {v : TV} (h : Tr w (fun b => b < base) t v) : Tr w' (fun b => b < base) t v := by
  induction h with
  | mk k' n s l A c vs hl hR hS hc hz hk ih => exact .mk k' n s l A c vs hl (hR.vk k hb (fun b off e hne => hS b off e (flat_ne hl hne))) hS hc hz ih

theorem addV_ge (acc : List Int) (n : Int) : acc.length ≤ (addV acc n).length := by unfold addV; split <;> simp
mutual
theorem tWalk_ge : ∀ (acc : List Int) (t : Tm), acc.length ≤ (tWalk acc t).length
  | acc, .mk k n s l => by
    rw [tWalk]
    refine Nat.le_trans ?_ (tWalks_ge _ l)
    split
    · exact addV_ge acc n
    · exact Nat.le_refl _
theorem tWalks_ge : ∀ (acc : List Int) (l : List Tm), acc.length ≤ (tWalks acc l).length
  | acc, [] => by rw [tWalks]; exact Nat.le_refl _
  | acc, a :: l => by rw [tWalks]; exact Nat.le_trans (tWalk_ge acc a) (tWalks_ge _ l)
end
theorem tWalks_app : ∀ (acc : List Int) (l m : List Tm), tWalks acc (l ++ m) = tWalks (tWalks acc l) m
  | acc, [], m => by rw [List.nil_append, tWalks]
  | acc, a :: l, m => by rw [List.cons_append, tWalks, tWalks, tWalks_app _ l m]
theorem tWalks_take (acc : List Int) (l : List Tm) (j : Nat) : (tWalks acc (l.take j)).length ≤ (tWalks acc l).length := by
  have h := tWalks_app acc (l.take j) (l.drop j)
  rw [List.take_append_drop] at h
  rw [h]
  exact tWalks_ge _ _

set_option maxHeartbeats 1600000 in
theorem walk_any (t : Tm) : ∀ (v : TV) (w : World) (base ob : Nat) (acc : List Int), Tr w (fun b => b < base) t v → VSt base ob acc w → (tWalk acc t).length ≤ 1000000 → base ≤ w.heap.size →
    Calls Try.prog 50 #[tvV v, .func (.func 51) #[] #[.pointer (some ⟨ob, 0, none⟩)]] w fun e w' => e = .returned (.tuple #[]) ∧ VSt base ob (tWalk acc t) w' ∧ VK base ob w w' := by
  induction t using Tm.ind_ with
  | h k n s l ih =>
    intro v w base ob acc ht hst hsz hbase
    cases ht with
    | mk _ _ _ _ A c vs hl hR hS hc hz hk =>
    rw [tWalk] at hsz ⊢
    have HT : Hid (Trs w (fun b => b < base) l vs) := ⟨hl, hk⟩
    have HR := Lib.hid hR
    have HI := Lib.hid ih
    have HS := Lib.hid hS
    obtain ⟨m, hm⟩ : ∃ m, l.length = m := ⟨_, rfl⟩
    have HM := Lib.hid hm
    have hmb : m ≤ 9223372036854775807 := by omega
    clear hl hR hS hc hz hk ih
    unfold tvV
    simp only [hm]
    clear hm
    have hob : ob < w.heap.size := by obtain ⟨_, A, c, hb, _⟩ := hst; exact hb.lt
    have HB0 : Hid (Blk (w.alloc (.cells #[.int .i64 k, .int .i64 n, .string s, .slice A m c] 30)) w.heap.size 30 #[.int .i64 k, .int .i64 n, .string s, .slice A m c]) := Blk.new _ _ _
    have HK0 : Hid (Keeps w (w.alloc (.cells #[.int .i64 k, .int .i64 n, .string s, .slice A m c] 30)) []) := (Keeps.refl w []).alloc _
    have HBO := Lib.hid hst.1
    obtain ⟨acc0, hacc0⟩ : ∃ acc0, (if k = 0 then addV acc n else acc) = acc0 := ⟨_, rfl⟩
    rw [hacc0] at hsz
    have hlen0 : acc.length ≤ 1000000 := by
      refine Nat.le_trans ?_ (Nat.le_trans (tWalks_ge acc0 l) hsz)
      subst hacc0
      split
      · exact addV_ge acc n
      · exact Nat.le_refl _
    have HL0 := Lib.hid hsz
    have HE : Hid (VSt base ob acc (w.alloc (.cells #[.int .i64 k, .int .i64 n, .string s, .slice A m c] 30))) := hst.keep HK0.out
    clear hst
    rw [hacc0]
    go_enter Try.func50, Try.ntmps50
    by_cases h0 : k = 0
    · subst h0
      rw [if_pos rfl] at hacc0
      have HEa := Lib.hid (each_any n base ob acc _ HE.out (by omega) (by simp; omega))
      rw [hacc0] at HEa
      go_wp2_with (go_at_call 51; refine HEa.out.mono ?_; rintro e w1 ⟨rfl, hv1, kv1⟩; have HB1 := Lib.hid (kv1.blk HB0.out (by omega) (by decide)); have HV1 := Lib.hid hv1; have HK1 := Lib.hid ((VK.of_keeps HK0.out).trans kv1); have p3 := HB1.out.cell 3; clear hv1 kv1 HB0 HK0 HE HEa)
      go_loopw [16] (fun i wr => ∃ j : Nat, j ≤ m ∧ i = .int .i64 j ∧ VSt base ob (tWalks acc0 (l.take j)) wr ∧ VK base ob w wr) (fun i _ => m - (intOf i).toNat)
      case atStart => exact ⟨0, Nat.zero_le _, rfl, by simpa [tWalks] using HV1.out, HK1.out⟩
      case round =>
        obtain ⟨j, hj, rfl, hv, hk⟩ := hrel
        have HV := Lib.hid hv
        have HK := Lib.hid hk
        have hws : w.heap.size ≤ wr.heap.size := hk.size
        clear hv hk
        by_cases hlt : j < m
        · obtain ⟨a, hx⟩ := at_of HM.out hlt
          have ha := List.mem_of_getElem? hx
          have htk : l.take (j + 1) = l.take j ++ [a] := by rw [List.take_add_one, hx]; rfl
          have HN : Hid (tWalks acc0 (l.take (j + 1)) = tWalk (tWalks acc0 (l.take j)) a) := by show _ = _; rw [htk, tWalks_snoc]
          have hlen : (tWalk (tWalks acc0 (l.take j)) a).length ≤ 1000000 := by
            rw [← HN.out]
            exact Nat.le_trans (tWalks_take acc0 l (j + 1)) HL0.out
          have hT2 : Trs wr (fun b => b < base) l vs := ⟨HT.out.len, fun i t v h1 h2 => (HT.out.at_ i t v h1 h2).vk HK.out HBO.out⟩
          have hR2 : Rd wr A (vs.flatMap tvE) := HR.out.vk HK.out HBO.out (fun b off e hne => HS.out b off e (flat_ne HT.out.len hne))
          obtain ⟨v', b, off, _, htr, rfl, hb, p0, p1, p2, p3⟩ := hT2.get hR2 hx
          have hca := HI.out a ha v' _ base ob _ (htr.keep ((Keeps.refl wr []).alloc (.cells #[.int .i64 v'.k, .int .i64 v'.n, .string v'.s, .slice v'.A v'.len v'.c] 30))) (HV.out.keep ((Keeps.refl wr []).alloc _)) hlen (by simp; omega)
          unfold tvV at hca
          rw [← HN.out] at hca
          have HC := Lib.hid hca
          clear hca htr hx ha hT2 hR2 htk hlen
          have b0 : (0 : Int) ≤ (j : Int) := Int.natCast_nonneg _
          have b1 : (j : Int) < (m : Int) := by omega
          go_wp2_with fail
          refine HC.out.mono ?_
          rintro e w2 ⟨rfl, hv2, hk2⟩
          go_wp2_with fail
          go_roundw
          case rel => exact ⟨j + 1, by omega, by go_num, hv2, (HK.out.trans (VK.of_keeps ((Keeps.refl wr []).alloc _))).trans hk2⟩
          case measure => simp [intOf]; omega
        · obtain rfl : m = j := by omega
          have htk : l.take m = l := by rw [← HM.out, List.take_length]
          rw [htk] at HV
          clear hlt hj
          go_wp2_with fail
          go_end0
          exact ⟨rfl, HV.out, HK.out⟩
    · rw [if_neg h0] at hacc0
      subst hacc0
      have e0 : (k == 0) = false := by simpa using h0
      go_wp2_with fail
      go_loopw [16] (fun i wr => ∃ j : Nat, j ≤ m ∧ i = .int .i64 j ∧ VSt base ob (tWalks acc (l.take j)) wr ∧ VK base ob w wr) (fun i _ => m - (intOf i).toNat)
      case atStart => exact ⟨0, Nat.zero_le _, rfl, by simpa [tWalks] using HE.out, VK.of_keeps HK0.out⟩
      case round =>
        obtain ⟨j, hj, rfl, hv, hk⟩ := hrel
        have HV := Lib.hid hv
        have HK := Lib.hid hk
        have hws : w.heap.size ≤ wr.heap.size := hk.size
        clear hv hk
        by_cases hlt : j < m
        · obtain ⟨a, hx⟩ := at_of HM.out hlt
          have ha := List.mem_of_getElem? hx
          have htk : l.take (j + 1) = l.take j ++ [a] := by rw [List.take_add_one, hx]; rfl
          have HN : Hid (tWalks acc (l.take (j + 1)) = tWalk (tWalks acc (l.take j)) a) := by show _ = _; rw [htk, tWalks_snoc]
          have hlen : (tWalk (tWalks acc (l.take j)) a).length ≤ 1000000 := by
            rw [← HN.out]
            exact Nat.le_trans (tWalks_take acc l (j + 1)) HL0.out
          have hT2 : Trs wr (fun b => b < base) l vs := ⟨HT.out.len, fun i t v h1 h2 => (HT.out.at_ i t v h1 h2).vk HK.out HBO.out⟩
          have hR2 : Rd wr A (vs.flatMap tvE) := HR.out.vk HK.out HBO.out (fun b off e hne => HS.out b off e (flat_ne HT.out.len hne))
          obtain ⟨v', b, off, _, htr, rfl, hb, p0, p1, p2, p3⟩ := hT2.get hR2 hx
          have hca := HI.out a ha v' _ base ob _ (htr.keep ((Keeps.refl wr []).alloc (.cells #[.int .i64 v'.k, .int .i64 v'.n, .string v'.s, .slice v'.A v'.len v'.c] 30))) (HV.out.keep ((Keeps.refl wr []).alloc _)) hlen (by simp; omega)
          unfold tvV at hca
          rw [← HN.out] at hca
          have HC := Lib.hid hca
          clear hca htr hx ha hT2 hR2 htk hlen
          have b0 : (0 : Int) ≤ (j : Int) := Int.natCast_nonneg _
          have b1 : (j : Int) < (m : Int) := by omega
          go_wp2_with fail
          refine HC.out.mono ?_
          rintro e w2 ⟨rfl, hv2, hk2⟩
          go_wp2_with fail
          go_roundw
          case rel => exact ⟨j + 1, by omega, by go_num, hv2, (HK.out.trans (VK.of_keeps ((Keeps.refl wr []).alloc _))).trans hk2⟩
          case measure => simp [intOf]; omega
        · obtain rfl : m = j := by omega
          have htk : l.take m = l := by rw [← HM.out, List.take_length]
          rw [htk] at HV
          clear hlt hj
          go_wp2_with fail
          go_end0
          exact ⟨rfl, HV.out, HK.out⟩

def tVars (l : List Tm) : List Int := tWalks [] l
theorem VK.keeps {w w' : World} {ob : Nat} (k : VK w.heap.size ob w w') (h : w.heap.size ≤ ob) : Keeps w w' [] := ⟨k.os, k.tape, k.output, k.size, fun i hi _ => k.block i hi (by omega) (.inl hi)⟩
theorem VSt.nums {base ob : Nat} {acc : List Int} {w : World} (h : VSt base ob acc w) : ∃ A c, Blk w ob 71 #[.slice A acc.length c] ∧ Nums .i64 w w.heap.size A acc := by
  obtain ⟨_, A, c, hb, ho⟩ := h
  obtain ⟨A', c', hv, _, hN⟩ := Nums.of_own ho
  injection hv with h1 h2 h3
  exact ⟨A, c, hb, by rw [h1]; exact hN⟩
set_option maxHeartbeats 1600000 in
theorem varsL_any (l : List Tm) (vs : List TV) (A : Option Addr) (m c : Nat) (w : World) (hT : Trs w (fun _ => True) l vs) (hR : Rd w A (vs.flatMap tvE)) (hm : l.length = m) (hmb : m ≤ 9223372036854775807) (hsz : (tVars l).length ≤ 1000000) :
    Calls Try.prog 36 #[.slice A m c] w fun e w' => ∃ A' c', e = .returned (.slice A' (tVars l).length c') ∧ Nums .i64 w' w'.heap.size A' (tVars l) ∧ Keeps w w' [] := by
  have HT : Hid (Trs w (fun b => b < w.heap.size) l vs) := hT.here.mono fun b h => h.2
  have HR := Lib.hid hR
  have HM := Lib.hid hm
  have HZ : Hid ((tWalks [] l).length ≤ 1000000) := hsz
  have HS : Hid (∀ b off, A = some ⟨b, off, none⟩ → vs.flatMap tvE ≠ [] → b < w.heap.size) := fun b off e hne => by
    have h1 : 0 < (vs.flatMap tvE).length := List.length_pos_iff.2 hne
    obtain ⟨b', off', _, e', hb, _⟩ := hR 0 h1
    rw [e] at e'
    injection e' with e'
    injection e' with e1
    omega
  obtain ⟨base, hbase⟩ : ∃ base, w.heap.size = base := ⟨_, rfl⟩
  have HV0 : Hid (VSt base base [] (w.alloc (.cells #[.slice none 0 0] 71))) := by
    subst hbase
    exact ⟨Nat.le_refl _, none, 0, Blk.new _ _ _, World.ownsRow_nil _ _ _ _⟩
  have HK0 : Hid (VK base base w (w.alloc (.cells #[.slice none 0 0] 71))) := VK.of_keeps ((Keeps.refl w []).alloc _)
  rw [hbase] at HT HS
  have HB := Lib.hid hbase
  clear hT hR hm hsz
  go_enter Try.func36, Try.ntmps36
  go_wp2_with fail
  go_loopw [8] (fun i wr => ∃ j : Nat, j ≤ m ∧ i = .int .i64 j ∧ VSt base base (tWalks [] (l.take j)) wr ∧ VK base base w wr) (fun i _ => m - (intOf i).toNat)
  case atStart => exact ⟨0, Nat.zero_le _, rfl, by simpa [tWalks] using HV0.out, HK0.out⟩
  case round =>
    obtain ⟨j, hj, rfl, hv, hk⟩ := hrel
    have HV := Lib.hid hv
    have HK := Lib.hid hk
    have hws : w.heap.size ≤ wr.heap.size := hk.size
    clear HV0 HK0
    by_cases hlt : j < m
    · obtain ⟨a, hx⟩ := at_of HM.out hlt
      have htk : l.take (j + 1) = l.take j ++ [a] := by rw [List.take_add_one, hx]; rfl
      have HN : Hid (tWalks [] (l.take (j + 1)) = tWalk (tWalks [] (l.take j)) a) := by show _ = _; rw [htk, tWalks_snoc]
      have hlen : (tWalk (tWalks [] (l.take j)) a).length ≤ 1000000 := by
        rw [← HN.out]
        exact Nat.le_trans (tWalks_take [] l (j + 1)) HZ.out
      have hT2 : Trs wr (fun b => b < base) l vs := ⟨HT.out.len, fun i t v h1 h2 => (HT.out.at_ i t v h1 h2).vk hk (Nat.le_refl _)⟩
      have hR2 : Rd wr A (vs.flatMap tvE) := HR.out.vk hk (Nat.le_refl _) HS.out
      obtain ⟨v', b, off, _, htr, rfl, hb, p0, p1, p2, p3⟩ := hT2.get hR2 hx
      have hca := walk_any a v' _ base base _ (htr.keep ((Keeps.refl wr []).alloc (.cells #[.int .i64 v'.k, .int .i64 v'.n, .string v'.s, .slice v'.A v'.len v'.c] 30))) (hv.keep ((Keeps.refl wr []).alloc _)) hlen (by simp; omega)
      unfold tvV at hca
      rw [← HN.out] at hca
      have HC := Lib.hid hca
      clear hca htr hx hT2 hR2 htk hlen hv hk
      have b0 : (0 : Int) ≤ (j : Int) := Int.natCast_nonneg _
      have b1 : (j : Int) < (m : Int) := by omega
      go_wp2_with fail
      refine HC.out.mono ?_
      rintro e w2 ⟨rfl, hv2, hk2⟩
      go_wp2_with fail
      go_roundw
      case rel => exact ⟨j + 1, by omega, by go_num, hv2, (HK.out.trans (VK.of_keeps ((Keeps.refl wr []).alloc _))).trans hk2⟩
      case measure => simp [intOf]; omega
    · obtain rfl : m = j := by omega
      have htk : l.take m = l := by rw [← HM.out, List.take_length]
      rw [htk] at hv
      obtain ⟨A', c', hblk, hN⟩ := hv.nums
      have q0 := hblk.cell 0
      have HN := Lib.hid hN
      have HKK : Hid (Keeps w wr []) := by
        have := HK.out
        rw [← HB.out] at this
        exact this.keeps (Nat.le_refl _)
      clear hlt hj hblk hN hv hk HV
      go_wp2_with fail
      go_ret
      exact ⟨A', c', rfl, HN.out, HKK.out⟩
theorem tVars_sizes (l : List Tm) : (tVars l).length ≤ tSizes l := by
  have := tWalks_len [] l
  unfold tVars
  simpa using this
theorem vars_any (l : List Tm) (vs : List TV) (A : Option Addr) (m c : Nat) (w : World) (hT : Trs w (fun _ => True) l vs) (hR : Rd w A (vs.flatMap tvE)) (hm : l.length = m) (hsz : tSizes l ≤ 1000000) :
    Calls Try.prog 36 #[.slice A m c] w fun e w' => ∃ A' c', e = .returned (.slice A' (tVars l).length c') ∧ Nums .i64 w' w'.heap.size A' (tVars l) ∧ Keeps w w' [] :=
  varsL_any l vs A m c w hT hR hm (by have := tSizes_len l; omega) (Nat.le_trans (tVars_sizes l) hsz)
end Go.Proofs.Ytjbomjnkjcafcaa
