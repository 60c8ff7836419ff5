/- Numbers and names laid into bytes: the program's put, putName; the document's num, name. -/
import Derived.Test.YtdcjiohbnnipdaaApp
import Derived.Test.YtdcjiohbnnipdaaText
import Derived.Test.YtdcjiohbnnipdaaBytes
import Derived.Lib.AppendStr
import Derived.Deep.AppendSrc
namespace Go.Proofs.Ytdcjiohbnnipdaa
open Go.RowKit

/-- A number in so many bytes, the highest first. -/
def be : Nat → Nat → List Int
  | 0, _ => []
  | k + 1, n => be k (n / 256) ++ [((n % 256 : Nat) : Int)]
theorem be_len : ∀ k n, (be k n).length = k
  | 0, _ => rfl
  | k + 1, n => by rw [be, List.length_append, be_len]; rfl
/-- .. from the front. -/
theorem be_front : ∀ k n, be (k + 1) n = ((n / 256 ^ k % 256 : Nat) : Int) :: be k n
  | 0, n => by simp [be]
  | k + 1, n => by
    rw [be, be_front k (n / 256), be]
    simp only [List.cons_append]
    congr 2
    rw [Nat.div_div_eq_div_mul, ← Nat.pow_succ']
def u8s (l : List Int) : List Value := l.map (Value.int .u8)
theorem u8s_len (l : List Int) : (u8s l).length = l.length := by simp [u8s]
theorem u8s_app (a b : List Int) : u8s (a ++ b) = u8s a ++ u8s b := by simp [u8s]
theorem u8s_one (l : List Int) : ∀ u ∈ u8s l, u.oneCell' = true := oneCell_ints _ _

theorem el_u8 : ElemT Try.prog 22 5 1 := elemT_of (b := 1) (z := .int .u8 0) Try.underlying22 (by kernel_rfl) (by omega) rfl (by omega)

/-- A slice of bytes onto which something can be appended: a row of the call's own; or one that is full. -/
def GrowB (w : World) (base : Nat) (A : Option Addr) (n c : Nat) (l : List Int) : Prop :=
  w.ownsRow base 5 1 (.slice A n c) n (u8s l) ∨ ((c = n ∧ l.length = n ∧ ∃ b, A = some ⟨b, 0, none⟩ ∧ base ≤ b ∧ b < w.heap.size ∧ ∀ j u, (u8s l)[j]? = some u → w.cell? ⟨b, j, none⟩ = some u) ∧ ∀ b, A = some ⟨b, 0, none⟩ → ∃ cs fr, w.heap[b]? = some (.cells cs 5 fr))
theorem GrowB.raw {w : World} {base : Nat} {A : Option Addr} {n c : Nat} {l : List Int} (h : GrowB w base A n c l) : w.ownsRow base 5 1 (.slice A n c) n (u8s l) ∨ (c = n ∧ l.length = n ∧ ∃ b, A = some ⟨b, 0, none⟩ ∧ base ≤ b ∧ b < w.heap.size ∧ ∀ j u, (u8s l)[j]? = some u → w.cell? ⟨b, j, none⟩ = some u) := by
  rcases h with h | h
  · exact .inl h
  · exact .inr h.1

section
variable {P : Program} (w : World) {T E : TypeId}
theorem run_app_full (hT : P.underlying T = some (.slice E)) (hE : (P.info? E).map (fun i => (i.zero, i.size, i.bytes)) = some (some (.int .u8 0), 1, 1)) (base : Nat) (b n : Nat) (l : List Int) (ty : TypeId) (hl : l.length = n)
    (hc : ∀ j u, (u8s l)[j]? = some u → w.cell? ⟨b, j, none⟩ = some u) (A : Option Addr) (m c : Nat) (news : List Value) (hm : 0 < m) (hr : Rd w A news) (hln : news.length = m) (hnm : n + m ≤ 549755813888) (hbase : base ≤ w.heap.size) :
    ∃ A' c' w', (Builtin.append_ #[T, T] ty #[.slice (some ⟨b, 0, none⟩) n n, .slice A m c]).run P w = .ok (.slice A' (n + m) c') w' ∧ w'.ownsRow base E 1 (.slice A' (n + m) c') (n + m) (u8s l ++ news) ∧
      (∀ row, w.grownBy w' row) ∧ (Value.slice A' (n + m) c').ownBlock = some w.heap.size := by
  obtain ⟨i, hi, hz, hsz, hby⟩ := info_parts hE
  obtain ⟨ab, off, e, hab⟩ := hr.some_of (by omega)
  subst e
  have hnews : ∀ j u, news[j]? = some u → w.cell? ((⟨ab, off, none⟩ : Addr).add j) = some u := by
    intro j u hu
    have hj := (List.getElem?_eq_some_iff.1 hu).1
    obtain ⟨b', off', v, h, _, hcl, hv⟩ := hr j hj
    injection h with h
    injection h with h1 h2
    subst h1 h2
    rw [add_lit, hcl]
    rw [hu] at hv
    exact hv.symm
  have holds : ∀ j u, (u8s l)[j]? = some u → w.cell? ((⟨b, 0, none⟩ : Addr).add j) = some u := by
    intro j u hu
    rw [add_lit, Nat.zero_add]
    exact hc j u hu
  have hrun := run_append_grow (P := P) w T ty E i (.int .u8 0) hT hi hz ⟨b, 0, none⟩ n n (u8s l) (by rw [u8s_len, hsz]; omega) holds ⟨ab, off, none⟩ m c news (by rw [hsz]; omega) hnews (by omega) (by omega) (by rw [hby]; exact growslice_fits (by omega) (by omega))
  refine ⟨_, _, _, hrun, ⟨by rw [List.length_append, u8s_len]; omega, .inr ⟨w.heap.size, _, _, rfl, hbase, heap_alloc_new w.drew _, grownCap_ge w (n + m) n E, grownCap_le_maxLen w (n + m) n E (by unfold maxLen; omega), ?_, ?_⟩⟩, fun row => ⟨rfl, rfl, rfl, by simp, fun k hk _ => Below.heap_alloc w.drew _ k hk⟩, rfl⟩
  · have hz1 : (Value.int IntKind.u8 0).cells.size = 1 := rfl
    have := grownCap_ge w (n + m) n E
    simp only [Array.size_append, List.size_toArray, size_zeroCells, hz1, u8s_len]
    omega
  · simp only [Array.toList_append]
    have h1 : ((u8s l).toArray.toList ++ news.toArray.toList).length = (n + m) * 1 := by rw [List.length_append]; simp [u8s_len]; omega
    rw [← h1, List.take_left]

theorem run_appB (hT : P.underlying T = some (.slice E)) (hE : (P.info? E).map (fun i => (i.zero, i.size, i.bytes)) = some (some (.int .u8 0), 1, 1)) (el : ElemT P T E 1) (base : Nat) (A0 : Option Addr) (n c0 : Nat) (l : List Int) (ty : TypeId)
    (hg : w.ownsRow base E 1 (.slice A0 n c0) n (u8s l) ∨ (c0 = n ∧ l.length = n ∧ ∃ b, A0 = some ⟨b, 0, none⟩ ∧ base ≤ b ∧ b < w.heap.size ∧ ∀ j u, (u8s l)[j]? = some u → w.cell? ⟨b, j, none⟩ = some u))
    (A : Option Addr) (m c : Nat) (news : List Value) (hm : 0 < m) (hr : Rd w A news) (hln : news.length = m) (h1 : ∀ u ∈ news, u.oneCell' = true) (hnm : n + m ≤ 549755813888) (hbase : base ≤ w.heap.size) :
    ∃ A' c' w', (Builtin.append_ #[T, T] ty #[.slice A0 n c0, .slice A m c]).run P w = .ok (.slice A' (n + m) c') w' ∧ w'.ownsRow base E 1 (.slice A' (n + m) c') (n + m) (u8s l ++ news) ∧
      w.grownBy w' (Value.slice A0 n c0).ownBlock ∧ ((Value.slice A' (n + m) c').ownBlock = (Value.slice A0 n c0).ownBlock ∨ (Value.slice A' (n + m) c').ownBlock = some w.heap.size) := by
  rcases hg with hg | ⟨rfl, hl, b, rfl, hb1, hb2, hc⟩
  · obtain ⟨i, z, hi, hz, hsz, hb, hzs⟩ := el.ex
    obtain ⟨ab, off, e, hab⟩ := hr.some_of (by omega)
    obtain ⟨A', c', w', hrun, h2, h3, h4⟩ := run_append_row (P := P) w base T ty E i z 1 i.bytes el.sl hi hz hsz rfl hzs (by omega) A0 n c0 (u8s l) hg w.heap.size A m c news hr (by omega) (by rw [e]; intro h; cases h) h1 (by unfold maxLen; omega) (bytes_few hb hnm) hbase
    exact ⟨A', c', w', hrun, h2, h3, h4⟩
  · obtain ⟨A', c', w', hrun, h2, h3, h4⟩ := run_app_full (P := P) w hT hE base b c0 l ty hl hc A m c news hm hr hln hnm hbase
    exact ⟨A', c', w', hrun, h2, h3 _, .inr h4⟩

theorem wpList_appB {ops : Array Oper} {rest : List Oper} {o : Oper} {a : Act} {Q : Exit → Act → World → Prop} (hT : P.underlying T = some (.slice E)) (hE : (P.info? E).map (fun i => (i.zero, i.size, i.bytes)) = some (some (.int .u8 0), 1, 1)) (el : ElemT P T E 1)
    (hgd : o.guard = none) (s x : Operand) (ho : o.op = .call { callee := .builtin .append, args := #[s, x], argTypes := #[T, T] }) (base : Nat) (A0 : Option Addr) (n c0 : Nat) (l : List Int) (hs : a.eval s = .slice A0 n c0)
    (hg : w.ownsRow base E 1 (.slice A0 n c0) n (u8s l) ∨ (c0 = n ∧ l.length = n ∧ ∃ b, A0 = some ⟨b, 0, none⟩ ∧ base ≤ b ∧ b < w.heap.size ∧ ∀ j u, (u8s l)[j]? = some u → w.cell? ⟨b, j, none⟩ = some u))
    (A : Option Addr) (m c : Nat) (news : List Value) (hx : a.eval x = .slice A m c) (hm : 0 < m) (hr : Rd w A news) (hln : news.length = m) (h1 : ∀ u ∈ news, u.oneCell' = true) (hnm : n + m ≤ 549755813888) (hbase : base ≤ w.heap.size)
    (h : ∀ A' c' w', w'.ownsRow base E 1 (.slice A' (n + m) c') (n + m) (u8s l ++ news) → w.grownBy w' (Value.slice A0 n c0).ownBlock →
      ((Value.slice A' (n + m) c').ownBlock = (Value.slice A0 n c0).ownBlock ∨ (Value.slice A' (n + m) c').ownBlock = some w.heap.size) → wpList P ops Q rest (a.put o.dst (.slice A' (n + m) c')) w') :
    wpList P ops Q (o :: rest) a w := by
  refine wpList_plain hgd fun K hK => ?_
  obtain ⟨A', c', w', hr, h2, h3, h4⟩ := run_appB (P := P) w hT hE el base A0 n c0 l o.type hg A m c news hm hr hln h1 hnm hbase
  unfold Oper.wp execOp
  simp only [ho, resolve, invoke, builtin, Sem.run_bind, Sem.run_pure, Result.andThen_ok, List.map_toArray, List.map_cons, List.map_nil, hs, hx, hr]
  exact hK _ _ (h A' c' w' h2 h3 h4)
end
theorem info_u8 : (Try.prog.info? 5).map (fun i => (i.zero, i.size, i.bytes)) = some (some (.int .u8 0), 1, 1) := by kernel_rfl
theorem GrowB.keep0 {w w' : World} {base : Nat} {A : Option Addr} {n c : Nat} {l : List Int} (h : GrowB w base A n c l) (k : Keeps w w' []) : GrowB w' base A n c l := by
  rcases h with h | ⟨⟨h1, h2, b, h3, h4, h5, h6⟩, h7⟩
  · exact .inl (own_keep0 h k)
  · refine .inr ⟨⟨h1, h2, b, h3, h4, Nat.lt_of_lt_of_le h5 k.size, fun j u hj => (k.cell0 h5).trans (h6 j u hj)⟩, fun b' hb' => ?_⟩
    obtain ⟨cs, fr, hc⟩ := h7 b' hb'
    exact ⟨cs, fr, (k.block b' (Array.getElem?_eq_some_iff.1 hc).1 (by simp)).trans hc⟩
theorem GrowB.out {w : World} {base : Nat} {A : Option Addr} {n c : Nat} {l : List Int} (h : GrowB w base A n c l) {b : Nat} (hb : b < base) : b ∉ ownL (.slice A n c) := by
  rcases h with h | ⟨⟨h1, h2, b', rfl, h4, h5, h6⟩, h7⟩
  · exact own_out h hb
  · simp [ownL, Value.ownBlock]
    omega
theorem GrowB.outT {w : World} {base : Nat} {A : Option Addr} {n c : Nat} {l : List Int} {t : TypeId} {cs : Array Value} (h : GrowB w base A n c l) {b : Nat} (hb : Blk w b t cs) (hne : t ≠ 5) : b ∉ ownL (.slice A n c) := by
  rcases h with h | ⟨⟨h1, h2, b', rfl, h4, h5, h6⟩, h7⟩
  · exact own_outT h hb hne
  · simp only [ownL, Value.ownBlock, Option.toList_some, List.mem_singleton]
    rintro rfl
    obtain ⟨cs', fr, hc⟩ := h7 b rfl
    unfold Blk at hb
    rw [hb] at hc
    simp at hc
    exact hne hc.2.1
theorem GrowB.low {w : World} {base : Nat} {A : Option Addr} {n c : Nat} {l : List Int} (h : GrowB w base A n c l) : ∀ q, q ∈ ownL (.slice A n c) → base ≤ q := by
  intro q hq
  rcases h with h | ⟨⟨h1, h2, b', rfl, h4, h5, h6⟩, h7⟩
  · unfold ownL at hq
    simp at hq
    exact (h.lt q hq).1
  · simp [ownL, Value.ownBlock] at hq
    omega
theorem GrowB.len {w : World} {base : Nat} {A : Option Addr} {n c : Nat} {l : List Int} (h : GrowB w base A n c l) : l.length = n := by
  rcases h with h | h
  · have := h.1
    rw [u8s_len] at this
    omega
  · exact h.1.2.1
/-- The block of what has grown: the old one, or a new one. -/
def NewOr (w : World) (v v' : Value) : Prop := v'.ownBlock = v.ownBlock ∨ ∃ q, v'.ownBlock = some q ∧ w.heap.size ≤ q
theorem NewOr.refl (w : World) (v : Value) : NewOr w v v := .inl rfl
theorem NewOr.step {w W : World} {v v1 v2 : Value} (h : NewOr w v v1) (hs : w.heap.size ≤ W.heap.size) (h2 : v2.ownBlock = v1.ownBlock ∨ v2.ownBlock = some W.heap.size) : NewOr w v v2 := by
  rcases h2 with h2 | h2
  · rcases h with h | ⟨q, h, hq⟩
    · exact .inl (h2.trans h)
    · exact .inr ⟨q, h2.trans h, hq⟩
  · exact .inr ⟨_, h2, hs⟩
theorem Keeps.newOr {w W W2 : World} {v v1 : Value} (k : Keeps w W (ownL v)) (h : NewOr w v v1) (hg : W.grownBy W2 v1.ownBlock) : Keeps w W2 (ownL v) := by
  refine k.grown hg (fun q hq => ?_)
  rcases h with h | ⟨q', h, hle⟩
  · left
    unfold ownL
    rw [← h, hq]
    simp
  · rw [h] at hq
    injection hq with hq
    exact .inr (by omega)
theorem be_byte (v m : Nat) : ((v : Int) / 2 ^ (8 * m) % 256) = ((v / 256 ^ m % 256 : Nat) : Int) := by
  have h : (2 : Int) ^ (8 * m) = ((256 ^ m : Nat) : Int) := by
    rw [Int.natCast_pow]
    rw [Int.pow_mul]
    rfl
  rw [h, Int.natCast_emod, Int.natCast_ediv]
  rfl
theorem be_take (k v j : Nat) (hj : j < k) : (be k v).take (j + 1) = (be k v).take j ++ [((v / 256 ^ (k - 1 - j) % 256 : Nat) : Int)] := by
  induction k generalizing j with
  | zero => omega
  | succ k ih =>
    rw [be_front]
    cases j with
    | zero => simp
    | succ j =>
      rw [List.take_succ_cons, List.take_succ_cons, ih j (by omega), List.cons_append, show k + 1 - 1 - (j + 1) = k - 1 - j from by omega]

/-- What a number's laying leaves. -/
def PutDone (w : World) (base : Nat) (A : Option Addr) (n c : Nat) (l more : List Int) (e : Ending) (w' : World) : Prop :=
  ∃ A' c', e = .returned (.slice A' (n + more.length) c') ∧ w'.ownsRow base 5 1 (.slice A' (n + more.length) c') (n + more.length) (u8s (l ++ more)) ∧ Keeps w w' (ownL (.slice A n c)) ∧ NewOr w (.slice A n c) (.slice A' (n + more.length) c')

set_option maxRecDepth 100000 in
set_option maxHeartbeats 800000 in
theorem put_any (A : Option Addr) (n c v k : Nat) (l : List Int) (base : Nat) (w : World) (hk : 1 ≤ k ∧ k ≤ 4) (hn : n ≤ 1099511627) (hg : GrowB w base A n c l) (hb : base ≤ w.heap.size) :
    Calls Try.prog 53 #[.slice A n c, .int .i64 v, .int .i64 k] w (PutDone w base A n c l (be k v)) := by
  have HG := Lib.hid hg
  clear hg
  go_enter Try.func53, Try.ntmps53
  go_wp2_with fail
  go_loopw [0, 7] (fun s i wr => ∃ j : Nat, j ≤ k ∧ i = .int .i64 ((k : Int) - 1 - j) ∧ ∃ A' c', s = .slice A' (n + j) c' ∧ GrowB wr base A' (n + j) c' (l ++ (be k v).take j) ∧ (0 < j → wr.ownsRow base 5 1 (.slice A' (n + j) c') (n + j) (u8s (l ++ (be k v).take j))) ∧ Keeps w wr (ownL (.slice A n c)) ∧ NewOr w (.slice A n c) (.slice A' (n + j) c')) (fun s i wr => (intOf i + 1).toNat)
  case atStart => exact ⟨0, Nat.zero_le _, by simp, A, c, rfl, by simpa using HG.out, fun h => absurd h (by omega), Keeps.refl _ _, NewOr.refl _ _⟩
  case round =>
    obtain ⟨j, hj, rfl, A', c', rfl, hgr, how, hkeep, hnew⟩ := hrel
    have HGr := Lib.hid hgr
    have HO := Lib.hid how
    have HK := Lib.hid hkeep
    have HN := Lib.hid hnew
    clear hgr how hkeep hnew
    by_cases hlt : j < k
    · have d1 : decide ((j : Int) ≤ (k : Int) - 1) = true := by simp only [decide_eq_true_eq]; omega
      have b0 : 0 ≤ (k : Int) - 1 - j := by omega
      have b1 : (k : Int) - 1 - j ≤ 3 := by omega
      have hsz := HK.out.size
      have HY := Lib.hid (be_byte v (k - 1 - j))
      have HT := Lib.hid (be_take k v j hlt)
      go_wp2_with (at_builtin; refine wpList_appB _ Try.underlying22 info_u8 el_u8 rfl _ _ rfl base A' (n + j) c' (l ++ (be k v).take j) rfl (HGr.out.keep0 ((Keeps.refl _ []).alloc _)).raw (some ⟨wr.heap.size, 0, none⟩) 1 1 [.int .u8 ((v : Int) / 2 ^ (8 * (k - 1 - j)) % 256)] rfl (by omega) (Rd.one wr _ [.int .u8 ((v : Int) / 2 ^ (8 * (k - 1 - j)) % 256)]) rfl (by simp [Value.oneCell']) (by omega) (by simp; omega) ?_; intro A2 c2 w2 hown hgrow hat)
      have hown2 : w2.ownsRow base 5 1 (.slice A2 (n + (j + 1)) c2) (n + (j + 1)) (u8s (l ++ (be k v).take (j + 1))) := by
        rw [HT.out, ← List.append_assoc, u8s_app, ← Nat.add_assoc]
        rw [HY.out] at hown
        exact hown
      have HO2 := Lib.hid hown2
      have HG2 := Lib.hid hgrow
      have HA2 := Lib.hid hat
      clear hown hown2 hgrow hat
      go_roundw
      case rel => exact ⟨j + 1, by omega, by simp only [Value.int.injEq, true_and]; omega, A2, c2, by rw [Nat.add_assoc], .inl HO2.out, fun _ => HO2.out, (HK.out.trans (((Keeps.refl _ []).alloc _).to_ _)).newOr HN.out HG2.out, HN.out.step (by simp; omega) HA2.out⟩
      case measure => simp [intOf]; omega
    · obtain rfl : k = j := by omega
      have d1 : decide ((k : Int) ≤ (k : Int) - 1) = false := by simp only [decide_eq_false_iff_not]; omega
      have HQ : Hid (PutDone w base A n c l (be k v) (.returned (.slice A' (n + k) c')) wr) := by
        have h1 := HO.out (by omega)
        rw [List.take_of_length_le (by rw [be_len]; exact Nat.le_refl _)] at h1
        refine ⟨A', c', by rw [be_len], ?_, HK.out, ?_⟩
        · rw [be_len]; exact h1
        · rw [be_len]; exact HN.out
      go_wp2_with fail
      go_ret
      exact HQ.out

theorem strCells_eq (s : ByteArray) : Lib.strCells s = u8s (bytesOf s) := by simp [Lib.strCells, u8s, bytesOf]
section
variable {P : Program} (w : World)
/-- 'append(b, s...)' onto a row that isn't nil. -/
theorem run_app_str (base : Nat) (t u ty e : TypeId) (i : TypeInfo) (ht : P.underlying t = some (.slice e)) (hu : P.underlying u = some .string) (hi : P.info? e = some i) (hz : i.zero = some (.int .u8 0)) (hsize : i.size = 1) (hby : i.bytes = 1)
    (A : Option Addr) (n c : Nat) (xs : List Value) (hown : w.ownsRow base e 1 (.slice A n c) n xs) (h0 : 0 < n) (s : ByteArray) (hnm : n + s.size ≤ 549755813888) (hbase : base ≤ w.heap.size) :
    ∃ A' c' w', (Builtin.append_ #[t, u] ty #[.slice A n c, .string s]).run P w = .ok (.slice A' (n + s.size) c') w' ∧ w'.ownsRow base e 1 (.slice A' (n + s.size) c') (n + s.size) (xs ++ Lib.strCells s) ∧ w.grownBy w' (Value.slice A n c).ownBlock ∧
      ((Value.slice A' (n + s.size) c').ownBlock = (Value.slice A n c).ownBlock ∨ (Value.slice A' (n + s.size) c').ownBlock = some w.heap.size) := by
  have hxl : xs.length = n := by simpa using hown.1
  have hlen : (xs ++ Lib.strCells s).length = (n + s.size) * 1 := by rw [List.length_append, hxl, Lib.strCells_length, Nat.mul_one]
  have h63 : n + s.size ≤ maxLen := by unfold maxLen; omega
  rcases hown.2 with ⟨_, h⟩ | ⟨g, cap, cur, hv, hbg, hg, hnc, hcm, hcs, htake⟩
  · omega
  · injection hv with hv1 hv2 hv3
    subst hv1 hv3
    by_cases hroom : n + s.size ≤ c
    · have hcs' : cur.size = c := by simpa using hcs
      have hr := Lib.run_append_room_string (P := P) w t u ty e i ht hu hi hsize g n c cur hg s hroom (by omega)
      refine ⟨_, _, _, hr, ⟨hlen, .inr ⟨g, c, _, rfl, hbg, setRow_heap w g cur _ e _ hg, hroom, hcm, ?_, ?_⟩⟩, ⟨rfl, rfl, rfl, by simp, fun k _ hk => setRow_other w g k _ (fun e => hk (by simp [Value.ownBlock, e]))⟩, .inl rfl⟩
      · simp only [List.size_toArray, List.length_append, List.length_take, List.length_drop, Array.length_toList, Lib.strCells_length]
        omega
      · have ht' : cur.toList.take n = xs := by simpa using htake
        rw [ht', ← hlen]
        exact List.take_left
    · have holds : ∀ j u, xs[j]? = some u → w.cell? ((⟨g, 0, none⟩ : Addr).add j) = some u := hown.cells (g := g) rfl
      have hr := Lib.run_append_grow_string (P := P) w t u ty e i (.int .u8 0) ht hu hi hz ⟨g, 0, none⟩ n c xs (by rw [hsize]; simpa using hxl) holds s (by omega) (by omega) (by rw [hby]; exact growslice_fits (by omega) (by omega))
      have hge := grownCap_ge w (n + s.size) c e
      have hcm2 : grownCap w (n + s.size) c e ≤ maxLen := grownCap_le_maxLen w (n + s.size) c e h63
      refine ⟨_, _, _, hr, ⟨hlen, .inr ⟨w.heap.size, _, _, rfl, hbase, heap_alloc_new w.drew _, hge, hcm2, ?_, ?_⟩⟩, ⟨rfl, rfl, rfl, by simp, fun k hk _ => Below.heap_alloc w.drew _ k hk⟩, .inr rfl⟩
      · have hz1 : (Value.int IntKind.u8 0).cells.size = 1 := rfl
        simp only [Array.size_append, List.size_toArray, size_zeroCells, hz1, hxl, Lib.strCells_length]
        omega
      · simp only [Array.toList_append, List.append_assoc]
        rw [← List.append_assoc, ← hlen]
        exact List.take_left
theorem wpList_app_str {ops : Array Oper} {rest : List Oper} {o : Oper} {a : Act} {Q : Exit → Act → World → Prop} (hgd : o.guard = none) (sl x : Operand) (t u : TypeId)
    (ho : o.op = .call { callee := .builtin .append, args := #[sl, x], argTypes := #[t, u] }) (base : Nat) (e : TypeId) (ht : P.underlying t = some (.slice e)) (hu : P.underlying u = some .string)
    (hE : (P.info? e).map (fun i => (i.zero, i.size, i.bytes)) = some (some (.int .u8 0), 1, 1)) (A : Option Addr) (n c : Nat) (xs : List Value) (hs : a.eval sl = .slice A n c) (hown : w.ownsRow base e 1 (.slice A n c) n xs) (h0 : 0 < n)
    (s : ByteArray) (hx : a.eval x = .string s) (hnm : n + s.size ≤ 549755813888) (hbase : base ≤ w.heap.size)
    (h : ∀ A' c' w', w'.ownsRow base e 1 (.slice A' (n + s.size) c') (n + s.size) (xs ++ Lib.strCells s) → w.grownBy w' (Value.slice A n c).ownBlock →
      ((Value.slice A' (n + s.size) c').ownBlock = (Value.slice A n c).ownBlock ∨ (Value.slice A' (n + s.size) c').ownBlock = some w.heap.size) → wpList P ops Q rest (a.put o.dst (.slice A' (n + s.size) c')) w') : wpList P ops Q (o :: rest) a w := by
  obtain ⟨i, hi, hz, hsz, hby⟩ := info_parts hE
  refine wpList_plain hgd fun K hK => ?_
  obtain ⟨A', c', w', hr, h2, h3, h4⟩ := run_app_str (P := P) w base t u o.type e i ht hu hi hz hsz hby A n c xs hown h0 s hnm hbase
  unfold Oper.wp execOp
  simp only [ho, resolve, invoke, builtin, Sem.run_bind, Sem.run_pure, Result.andThen_ok, List.map_toArray, List.map_cons, List.map_nil, hs, hx, hr]
  exact hK _ _ (h A' c' w' h2 h3 h4)
end
def nameB (s : ByteArray) : List Int := be 1 s.size ++ bytesOf s
theorem nameB_len (s : ByteArray) : (nameB s).length = 1 + s.size := by rw [nameB, List.length_append, be_len, bytesOf_len]
/-- One laying behind another. -/
theorem PutDone.then {w w1 w2 : World} {base : Nat} {A A1 : Option Addr} {n c c1 : Nat} {l m1 m2 : List Int} {e : Ending} (k1 : Keeps w w1 (ownL (.slice A n c))) (h1 : NewOr w (.slice A n c) (.slice A1 (n + m1.length) c1))
    (h : PutDone w1 base A1 (n + m1.length) c1 (l ++ m1) m2 e w2) : PutDone w base A n c l (m1 ++ m2) e w2 := by
  obtain ⟨A2, c2, he, ho, k2, h2⟩ := h
  refine ⟨A2, c2, by rw [he, List.length_append, Nat.add_assoc], ?_, ?_, ?_⟩
  · rw [← List.append_assoc, List.length_append, ← Nat.add_assoc]
    exact ho
  · refine ⟨k2.os.trans k1.os, k2.tape.trans k1.tape, k2.output.trans k1.output, Nat.le_trans k1.size k2.size, fun i hi hn => ?_⟩
    refine (k2.block i (Nat.lt_of_lt_of_le hi k1.size) (fun hm => ?_)).trans (k1.block i hi hn)
    unfold ownL at hm hn
    rcases h1 with h1 | ⟨q, h1, hq⟩
    · rw [h1] at hm; exact hn hm
    · rw [h1] at hm
      simp at hm
      omega
  · rw [List.length_append, ← Nat.add_assoc]
    rcases h2 with h2 | ⟨q, h2, hq⟩
    · rcases h1 with h1 | ⟨q, h1, hq⟩
      · exact .inl (h2.trans h1)
      · exact .inr ⟨q, h2.trans h1, hq⟩
    · exact .inr ⟨q, h2, Nat.le_trans k1.size hq⟩

set_option maxRecDepth 100000 in
set_option maxHeartbeats 800000 in
theorem putName_any (A : Option Addr) (n c : Nat) (s : ByteArray) (l : List Int) (base : Nat) (w : World) (hn : n ≤ 1099511626) (hs : s.size ≤ 65536) (hg : GrowB w base A n c l) (hb : base ≤ w.heap.size) :
    Calls Try.prog 54 #[.slice A n c, .string s] w (PutDone w base A n c l (nameB s)) := by
  have HG := Lib.hid hg
  clear hg
  go_enter Try.func54, Try.ntmps54
  go_wp2_with fail
  refine (put_any A n c s.size 1 l base w (by omega) (by omega) HG.out hb).mono ?_
  rintro e w1 ⟨A1, c1, rfl, ho1, k1, n1⟩
  have HO := Lib.hid ho1
  have hsz := k1.size
  clear ho1
  have hl1 := be_len 1 s.size
  rw [hl1] at HO n1 ⊢
  clear hl1
  go_wp2_with (at_builtin; refine wpList_app_str _ rfl _ _ _ _ rfl base 5 Try.underlying22 Try.underlying9 info_u8 A1 (n + 1) c1 (u8s (l ++ be 1 s.size)) rfl HO.out (by omega) s rfl (by omega) (by omega) ?_; intro A2 c2 w2 hown hgrow hat)
  go_ret
  refine PutDone.then (m1 := be 1 s.size) (m2 := bytesOf s) (c1 := c1) (A1 := A1) k1 (by rw [be_len]; exact n1) ⟨A2, c2, by rw [be_len, bytesOf_len]; rfl, ?_, Keeps.ofGrown (by rw [be_len]; exact hgrow), ?_⟩
  · rw [be_len, bytesOf_len, u8s_app, ← strCells_eq]
    exact hown
  · rw [be_len, bytesOf_len]
    rcases hat with h | h
    · exact .inl h
    · exact .inr ⟨_, h, Nat.le_refl _⟩
end Go.Proofs.Ytdcjiohbnnipdaa
