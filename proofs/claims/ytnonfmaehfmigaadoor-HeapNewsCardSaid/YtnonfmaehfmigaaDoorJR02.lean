/- The document's numbers in digits: what strconv.Itoa says. -/
import Derived.Test.YtnonfmaehfmigaaDoorJR01
import Derived.BigRegion
import Derived.BigQuiet
import Derived.Deep.QuietTactic
import Derived.RegionTactic
import Derived.Lib.ItoaNum
import Derived.Lib.ItoaLen
import Derived.Lib.AtoiAll
import Derived.Lib.AtoiAllCases
import Derived.OrdersHeld
import Derived.StillTail
import Derived.Deep.RegionHeld3
namespace Go.Proofs.YtnonfmaehfmigaaDoor
open Go.RowKit

theorem drewN_alloc (w : World) (n : Nat) (o : Obj) : (w.drewN n).alloc o = (w.alloc o).drewN n := rfl
theorem drewN_setCell (w : World) (n : Nat) (a : Addr) (v : Value) : (w.drewN n).setCell a v = (w.setCell a v).drewN n := rfl
def digits (n : Nat) : ByteArray := ⟨(Lib.decDigits n).toArray⟩
def digit1 (n : Nat) : ByteArray := ⟨#[UInt8.ofNat (48 + n)]⟩
theorem digits_size (n : Nat) (h : n < 18446744073709551616) : (digits n).size ≤ 20 := by
  have := Lib.nDigits_le20 n h
  rw [← Lib.decDigits_length] at this
  simpa [digits, ByteArray.size] using this
theorem digits_small (n : Nat) (h : n < 10) : digits n = digit1 n := by
  unfold digits digit1
  rw [Lib.decDigits_one h]
theorem digits_big (n : Nat) (h : 10 ≤ n) : digits n = digits (n / 10) ++ digit1 (n % 10) := by
  have e : Lib.decDigits n = Lib.decDigits (n / 10) ++ [UInt8.ofNat (48 + n % 10)] := by
    rw [Lib.decDigits, dif_neg (by omega)]
  unfold digits digit1
  rw [e]
  exact (ByteArray.mk_append_mk (Lib.decDigits (n / 10)) [UInt8.ofNat (48 + n % 10)]).symm
theorem cut1 (n : Nat) (h : n < 10) : (⟨#[48, 49, 50, 51, 52, 53, 54, 55, 56, 57]⟩ : ByteArray).extract n (n + 1) = digit1 n := by
  rcases n with _ | _ | _ | _ | _ | _ | _ | _ | _ | _ | n
  all_goals first | rfl | (exfalso; omega)

set_option maxHeartbeats 400000 in
theorem num_small (n : Nat) (w : World) (h : n < 10) : Calls Tryd.prog 60 #[.int .i64 n] w fun e w' => e = .returned (.string (digits n)) ∧ w = w' := by
  have HD := Lib.hid ((cut1 n h).trans (digits_small n h).symm)
  have d1 : decide ((n : Int) < -9223372036854775807) = false := by simp
  have d2 : decide ((n : Int) < 0) = false := by simp
  have d3 : decide ((n : Int) < 10) = true := by simp; omega
  go_enter Tryd.func60, Tryd.ntmps60
  go_wp2_with fail
  go_ret
  exact ⟨by rw [← HD.out]; rfl, rfl⟩
set_option maxHeartbeats 400000 in
theorem num_big (n : Nat) (w : World) (h : 10 ≤ n) (hn : n ≤ 9223372036854775807) (ih : ∀ w, Calls Tryd.prog 60 #[.int .i64 ((n / 10 : Nat) : Int)] w fun e w' => e = .returned (.string (digits (n / 10))) ∧ ∃ k, w' = w.drewN k) :
    Calls Tryd.prog 60 #[.int .i64 n] w fun e w' => e = .returned (.string (digits n)) ∧ ∃ k, w' = w.drewN k := by
  have HI := Lib.hid ih
  clear ih
  have d1 : decide ((n : Int) < -9223372036854775807) = false := by simp
  have d2 : decide ((n : Int) < 0) = false := by simp
  have d3 : decide ((n : Int) < 10) = false := by simp; omega
  have b1 : (0 : Int) ≤ (n : Int) % 10 := by omega
  have b2 : (n : Int) % 10 < 10 := by omega
  have e1 : (n : Int).tdiv 10 = (n : Int) / 10 := Int.tdiv_eq_ediv_of_nonneg (by omega)
  have e2 : IntKind.i64.wrap ((n : Int) / 10) = (n : Int) / 10 := IntWalk.i64_in _ (by omega)
  have e3 : (n : Int).tmod 10 = (n : Int) % 10 := Int.tmod_eq_emod_of_nonneg (by omega)
  have e4 : IntKind.i64.wrap ((n : Int) % 10) = (n : Int) % 10 := IntWalk.i64_in _ (by omega)
  have e5 : IntKind.i64.wrap ((n : Int) % 10 + 1) = (n : Int) % 10 + 1 := IntWalk.i64_in _ (by omega)
  have hs : ∀ w, (Instr.slice 9 (.string ⟨#[48, 49, 50, 51, 52, 53, 54, 55, 56, 57]⟩) (some (.int .i64 ((n : Int) % 10))) (some (.int .i64 ((n : Int) % 10 + 1))) none).run Tryd.prog w = .ok (.string (digit1 (n % 10))) w := fun w => by
    rw [run_slice_string_if (P := Tryd.prog) (w := w) 9 _ _ _ _ _ Tryd.underlying9, if_pos ⟨by omega, by show (n : Int) % 10 + 1 ≤ 10; omega⟩, if_pos ⟨by omega, by omega⟩,
      show ((n : Int) % 10).toNat = n % 10 by omega, show ((n : Int) % 10 + 1).toNat = n % 10 + 1 by omega, cut1 _ (by omega)]
  have ha : ∀ w, (Op.stringOp .add (digits (n / 10)) (digit1 (n % 10))).run Tryd.prog w = .ok (.string (digits n)) w := fun w => by
    rw [run_string_add_sum (P := Tryd.prog) w _ _ (by have := digits_size (n / 10) (by omega); have : (digit1 (n % 10)).size = 1 := rfl; omega), digits_big n h]
  go_enter Tryd.func60, Tryd.ntmps60
  go_wp2_with fail
  go_quiet ((go_at_call 60; exact Calls.quiet_of (HI.out _)))
  go_wp2_with fail
  go_ret
  exact ⟨rfl, _, rfl⟩
theorem num_any (n : Nat) : ∀ w : World, n ≤ 9223372036854775807 → Calls Tryd.prog 60 #[.int .i64 n] w fun e w' => e = .returned (.string (digits n)) ∧ ∃ k, w' = w.drewN k := by
  induction n using Nat.strongRecOn with
  | _ n ih =>
    intro w hn
    by_cases h : n < 10
    · exact (num_small n w h).mono fun e w' ⟨he, hw⟩ => ⟨he, 0, hw.symm⟩
    · exact num_big n w (by omega) hn (fun w => ih (n / 10) (by omega) w (by omega))
end Go.Proofs.YtnonfmaehfmigaaDoor

/- Digits, and texts as bytes. -/
namespace Go.Proofs.YtnonfmaehfmigaaDoor
open Go.RowKit

abbrev Txt := List UInt8
def isDig (c : UInt8) : Bool := decide (48 ≤ c.toNat) && decide (c.toNat ≤ 57)
theorem dig_of {i : Nat} (h : i < 10) : (UInt8.ofNat (48 + i)).toNat = 48 + i := by rw [UInt8.toNat_ofNat']; omega
theorem digits_dig (n : Nat) : ∀ c ∈ Lib.decDigits n, isDig c = true := by
  induction n using Nat.strongRecOn with
  | _ n ih =>
    intro c hc
    by_cases h : n < 10
    · rw [Lib.decDigits_one h] at hc
      simp only [List.mem_singleton] at hc
      subst hc
      simp [isDig]
      omega
    · rw [Lib.decDigits, dif_neg h] at hc
      rcases List.mem_append.1 hc with hc | hc
      · exact ih (n / 10) (by omega) c hc
      · simp only [List.mem_singleton] at hc
        subst hc
        have : n % 10 < 10 := by omega
        simp [isDig]
        omega
theorem digits_ne (n : Nat) : Lib.decDigits n ≠ [] := by
  rw [Lib.decDigits]
  split
  · simp
  · simp
/-- The number that digits spell. -/
def valT (l : Txt) : Nat := l.foldl (fun n c => 10 * n + (c.toNat - 48)) 0
theorem valT_snoc (l : Txt) (c : UInt8) : valT (l ++ [c]) = 10 * valT l + (c.toNat - 48) := by simp [valT]
theorem valT_digits (n : Nat) : valT (Lib.decDigits n) = n := by
  induction n using Nat.strongRecOn with
  | _ n ih =>
    by_cases h : n < 10
    · rw [Lib.decDigits_one h]
      show 10 * 0 + ((UInt8.ofNat (48 + n)).toNat - 48) = n
      rw [dig_of h]
      omega
    · have hm : n % 10 < 10 := by omega
      rw [Lib.decDigits, dif_neg h, valT_snoc, ih (n / 10) (by omega), dig_of hm]
      omega
theorem parse_from (l : Txt) : ∀ acc : Nat, (∀ c ∈ l, isDig c = true) → l.foldl (fun n c => 10 * n + (c.toNat - 48)) acc < 9223372036854775808 → Lib.parseUint10 acc l = .ok (l.foldl (fun n c => 10 * n + (c.toNat - 48)) acc) := by
  induction l with
  | nil => intro acc _ _; rfl
  | cons c l ih =>
    intro acc hd hb
    have hc := hd c (by simp)
    simp only [isDig, Bool.and_eq_true, decide_eq_true_eq] at hc
    have hle : ∀ (l : Txt) (a : Nat), a ≤ l.foldl (fun n c => 10 * n + (c.toNat - 48)) a := fun l => by
      induction l with
      | nil => intro a; exact Nat.le_refl _
      | cons c l ih => intro a; rw [List.foldl_cons]; exact Nat.le_trans (by omega) (ih _)
    have h1 := hle l (10 * acc + (c.toNat - 48))
    rw [List.foldl_cons] at hb ⊢
    rw [Lib.parseUint10, if_pos hc, if_neg (by omega), if_neg (by omega), show acc * 10 + (c.toNat - 48) = 10 * acc + (c.toNat - 48) by omega]
    exact ih _ (fun x hx => hd x (by simp [hx])) hb
theorem atoi_digits {n : Nat} (h : n < 9223372036854775808) : Lib.atoiAll (Lib.decDigits n) = .ok n := by
  have hd := digits_dig n
  have hv := valT_digits n
  have hp : Lib.parseMag (Lib.decDigits n) = .ok n := by
    rw [Lib.parseMag, if_neg (digits_ne n), parse_from _ 0 hd (by rw [← valT, hv]; exact h)]
    rw [← valT, hv]
  cases hl : Lib.decDigits n with
  | nil => exact absurd hl (digits_ne n)
  | cons c r =>
    have hc := hd c (by rw [hl]; simp)
    simp only [isDig, Bool.and_eq_true, decide_eq_true_eq] at hc
    rw [Lib.atoiAll_plain c r (by omega) (by omega), ← hl, hp]
    simp [Lib.signless]
    omega

theorem digits_head (n : Nat) : ∃ c r, Lib.decDigits n = c :: r ∧ isDig c = true := by
  cases h : Lib.decDigits n with
  | nil => exact absurd h (digits_ne n)
  | cons c r => exact ⟨c, r, rfl, digits_dig n c (by rw [h]; simp)⟩
theorem digits_len (n : Nat) (h : n ≤ 65535) : 1 ≤ (Lib.decDigits n).length ∧ (Lib.decDigits n).length ≤ 7 := by
  refine ⟨Nat.pos_of_ne_zero (fun h0 => digits_ne n (List.eq_nil_of_length_eq_zero h0)), ?_⟩
  have step : ∀ m j : Nat, (m < 10 → (Lib.decDigits m).length ≤ j + 1) := fun m j hm => by rw [Lib.decDigits_one hm]; simp
  have go : ∀ j m : Nat, m < 10 ^ (j + 1) → (Lib.decDigits m).length ≤ j + 1 := fun j => by
    induction j with
    | zero => intro m hm; exact step m 0 (by simpa using hm)
    | succ j ih =>
      intro m hm
      by_cases h10 : m < 10
      · exact step m _ h10
      · rw [Lib.decDigits, dif_neg h10, List.length_append]
        have := ih (m / 10) (by rw [Nat.pow_succ] at hm; omega)
        simp only [List.length_singleton]
        omega
  exact go 6 n (by omega)
theorem digits_len4 (n : Nat) (h : n ≤ 999) : (Lib.decDigits n).length ≤ 3 := by
  have step : ∀ m j : Nat, (m < 10 → (Lib.decDigits m).length ≤ j + 1) := fun m j hm => by rw [Lib.decDigits_one hm]; simp
  have go : ∀ j m : Nat, m < 10 ^ (j + 1) → (Lib.decDigits m).length ≤ j + 1 := fun j => by
    induction j with
    | zero => intro m hm; exact step m 0 (by simpa using hm)
    | succ j ih =>
      intro m hm
      by_cases h10 : m < 10
      · exact step m _ h10
      · rw [Lib.decDigits, dif_neg h10, List.length_append]
        have := ih (m / 10) (by rw [Nat.pow_succ] at hm; omega)
        simp only [List.length_singleton]
        omega
  exact go 2 n (by omega)
def stB (l : Txt) : ByteArray := ⟨l.toArray⟩
theorem stB_app (a b : Txt) : stB a ++ stB b = stB (a ++ b) := ByteArray.mk_append_mk a b
theorem stB_size (l : Txt) : (stB l).size = l.length := by simp [stB, ByteArray.size]
theorem stB_list (l : Txt) : (stB l).data.toList = l := by simp [stB]
theorem stB_of (s : ByteArray) : stB s.data.toList = s := by cases s; simp [stB]
theorem bytes_eq {a b : ByteArray} : (a.toList == b.toList) = true ↔ a.data.toList = b.data.toList := by
  rw [ByteArray.toList_eq, ByteArray.toList_eq, beq_iff_eq]
end Go.Proofs.YtnonfmaehfmigaaDoor

/- Terms: their parts, their words, and back: the plain law. -/
namespace Go.Proofs.YtnonfmaehfmigaaDoor
open Go.RowKit

mutual
def tSize : Tm → Nat
  | .mk _ _ _ l => 1 + tSizes l
def tSizes : List Tm → Nat
  | [] => 0
  | a :: l => tSize a + tSizes l
end
mutual
def tRight : Tm → Bool
  | .mk k n s l => tRights l && (if k = 0 then decide (0 ≤ n) && decide (n ≤ 999) && decide (s.size = 0) && decide (l.length = 0) else if k = 1 then decide (n = 0) && nameOk s && decide (l.length = 0) else if k = 2 then decide (n = 0) && nameOk s && decide (1 ≤ l.length) && decide (l.length ≤ 8) else if k = 3 then decide (n = 0) && decide (s.size = 0) && decide (l.length = 2) else false)
def tRights : List Tm → Bool
  | [] => true
  | a :: l => tRight a && tRights l
end
theorem tRights_all : ∀ l : List Tm, tRights l = true ↔ ∀ a ∈ l, tRight a = true
  | [] => by simp [tRights]
  | a :: l => by rw [tRights, Bool.and_eq_true, tRights_all l]; simp
theorem tSizes_snoc : ∀ (l : List Tm) (a : Tm), tSizes (l ++ [a]) = tSizes l + tSize a
  | [], a => by simp [tSizes]
  | b :: l, a => by rw [List.cons_append, tSizes, tSizes, tSizes_snoc l a]; omega
theorem tSizes_mem : ∀ {l : List Tm} {a : Tm}, a ∈ l → tSize a ≤ tSizes l
  | b :: l, a, h => by
    rw [tSizes]
    rcases List.mem_cons.1 h with rfl | h
    · omega
    · have := tSizes_mem h; omega
theorem tSize_pos (t : Tm) : 1 ≤ tSize t := by cases t; rw [tSize]; omega
theorem tSizes_len : ∀ l : List Tm, l.length ≤ tSizes l
  | [] => by simp [tSizes]
  | a :: l => by have := tSizes_len l; have := tSize_pos a; rw [tSizes, List.length_cons]; omega
/-! ### The same? -/
mutual
def tSame : Tm → Tm → Bool
  | .mk k n s l, .mk k' n' s' l' => decide (k = k') && decide (n = n') && decide (s = s') && tSames l l'
def tSames : List Tm → List Tm → Bool
  | [], [] => true
  | a :: l, b :: l' => tSame a b && tSames l l'
  | _, _ => false
end
mutual
theorem tSame_iff : ∀ a b : Tm, tSame a b = true ↔ a = b
  | .mk k n s l, .mk k' n' s' l' => by
    rw [tSame]
    simp only [Bool.and_eq_true, decide_eq_true_eq, tSames_iff l l', Tm.mk.injEq]
    constructor <;> (rintro h; simp_all)
theorem tSames_iff : ∀ l m : List Tm, tSames l m = true ↔ l = m
  | [], [] => by simp [tSames]
  | a :: l, b :: m => by rw [tSames, Bool.and_eq_true, tSame_iff a b, tSames_iff l m, List.cons.injEq]
  | [], _ :: _ => by simp [tSames]
  | _ :: _, [] => by simp [tSames]
end
/-- Words with a byte between them. -/
def tJoin (c : UInt8) : List Txt → Txt
  | [] => []
  | [x] => x
  | x :: y :: l => x ++ c :: tJoin c (y :: l)
mutual
def tText : Tm → Txt
  | .mk k n s l => if k = 0 then 88 :: Lib.decDigits n.toNat else if k = 1 then s.data.toList else if k = 3 then 91 :: (tJoin 124 (tTexts l) ++ [93]) else s.data.toList ++ 40 :: (tJoin 44 (tTexts l) ++ [41])
def tTexts : List Tm → List Txt
  | [] => []
  | a :: l => tText a :: tTexts l
end
theorem tTexts_map : ∀ l : List Tm, tTexts l = l.map tText
  | [] => rfl
  | a :: l => by rw [tTexts, tTexts_map l]; rfl
def tMore (l : List Tm) : Txt := l.flatMap fun a => 44 :: tText a
theorem join_more (a : Tm) : ∀ l : List Tm, tJoin 44 (tTexts (a :: l)) = tText a ++ tMore l
  | [] => by simp [tTexts, tJoin, tMore]
  | b :: l => by
    have := join_more b l
    rw [tTexts] at this
    rw [tTexts, tTexts, tJoin, this]
    simp [tMore]

/-! ### A text's term -/
def isSm (c : UInt8) : Bool := decide (97 ≤ c.toNat) && decide (c.toNat ≤ 122)
def isAl (c : UInt8) : Bool := isSm c || isDig c
abbrev Num := Txt → Option (Int × Txt)
/-- The program's numbers; the document's. -/
def numP : Num := fun r => match Lib.atoiAll (r.takeWhile isDig) with
  | .ok v => if 0 ≤ v ∧ Lib.decDigits v.toNat = r.takeWhile isDig then some (v, r.dropWhile isDig) else none
  | _ => none
def numR : Num := fun r => if Lib.decDigits (valT ((r.takeWhile isDig).take 4)) = (r.takeWhile isDig).take 4 then some (valT ((r.takeWhile isDig).take 4), r.drop ((r.takeWhile isDig).take 4).length) else none
def pMore (p : Txt → Option (Tm × Txt)) : Nat → Txt → Option (List Tm × Txt)
  | 0, _ => none
  | f + 1, s => if s.head? = some 44 then (p s.tail).bind fun x => (pMore p f x.2).bind fun y => some (x.1 :: y.1, y.2) else some ([], s)
def pTerm (num : Num) : Nat → Txt → Option (Tm × Txt)
  | 0, _ => none
  | f + 1, s =>
    if s.head? = some 88 then (num s.tail).bind fun x => some (.mk 0 x.1 ⟨#[]⟩ [], x.2)
    else if s.head? = some 91 then (pTerm num f s.tail).bind fun x => if x.2.head? = some 124 then (pTerm num f x.2.tail).bind fun y => if y.2.head? = some 93 then some (.mk 3 0 ⟨#[]⟩ [x.1, y.1], y.2.tail) else none else none
    else if s.takeWhile isAl = [] then none
    else if (s.dropWhile isAl).head? = some 40 then (pTerm num f (s.dropWhile isAl).tail).bind fun x => (pMore (pTerm num f) (x.2.length + 1) x.2).bind fun y => if y.2.head? = some 41 then some (.mk 2 0 (stB (s.takeWhile isAl)) (x.1 :: y.1), y.2.tail) else none
    else some (.mk 1 0 (stB (s.takeWhile isAl)) [], s.dropWhile isAl)
def parseTm (num : Num) (s : Txt) : Option Tm := match pTerm num (s.length + 1) s with
  | some (t, []) => if tRight t then some t else none
  | _ => none

structure NumOk (num : Num) : Prop where
  snd : ∀ {r n rest}, num r = some (n, rest) → 0 ≤ n ∧ r = Lib.decDigits n.toNat ++ rest
  cmp : ∀ {n : Int} {rest : Txt}, 0 ≤ n → n ≤ 999 → (∀ c, rest.head? = some c → isDig c = false) → num (Lib.decDigits n.toNat ++ rest) = some (n, rest)

theorem head_tail {s : Txt} {c : UInt8} (h : s.head? = some c) : s = c :: s.tail := by
  cases s with
  | nil => simp at h
  | cons d s => simp at h; subst h; rfl
theorem take_drop_while (p : UInt8 → Bool) (s : Txt) : s.takeWhile p ++ s.dropWhile p = s := List.takeWhile_append_dropWhile
theorem take_stop {p : UInt8 → Bool} : ∀ {a b : Txt}, (∀ c ∈ a, p c = true) → (∀ c, b.head? = some c → p c = false) → (a ++ b).takeWhile p = a ∧ (a ++ b).dropWhile p = b
  | [], b, _, h => by
    cases b with
    | nil => simp
    | cons c b => have := h c rfl; simp [this]
  | c :: a, b, ha, h => by
    obtain ⟨h1, h2⟩ := take_stop (a := a) (b := b) (fun c hc => ha c (by simp [hc])) h
    have := ha c (by simp)
    simp [this, h1, h2]
theorem pMore_snd {p : Txt → Option (Tm × Txt)} (hp : ∀ s t rest, p s = some (t, rest) → s = tText t ++ rest) : ∀ (f : Nat) (s : Txt) (l : List Tm) (rest : Txt), pMore p f s = some (l, rest) → s = tMore l ++ rest
  | 0, s, l, rest, h => by simp [pMore] at h
  | f + 1, s, l, rest, h => by
    rw [pMore] at h
    split at h
    · rename_i hc
      cases hx : p s.tail with
      | none => rw [hx] at h; simp at h
      | some x =>
        obtain ⟨t, r1⟩ := x
        rw [hx] at h
        simp only [Option.bind_some] at h
        cases hy : pMore p f r1 with
        | none => rw [hy] at h; simp at h
        | some y =>
          obtain ⟨l2, r2⟩ := y
          rw [hy] at h
          simp only [Option.bind_some, Option.some.injEq, Prod.mk.injEq] at h
          obtain ⟨rfl, rfl⟩ := h
          have h1 := hp _ _ _ hx
          have h2 := pMore_snd hp f _ _ _ hy
          rw [head_tail hc, h1, h2]
          simp [tMore]
    · simp only [Option.some.injEq, Prod.mk.injEq] at h
      obtain ⟨rfl, rfl⟩ := h
      simp [tMore]
/-- What is told has just that text. -/
theorem pTerm_snd {num : Num} (hn : NumOk num) : ∀ (f : Nat) (s : Txt) (t : Tm) (rest : Txt), pTerm num f s = some (t, rest) → s = tText t ++ rest
  | 0, s, t, rest, h => by simp [pTerm] at h
  | f + 1, s, t, rest, h => by
    rw [pTerm] at h
    split at h
    · rename_i hc
      cases hx : num s.tail with
      | none => rw [hx] at h; simp at h
      | some x =>
        obtain ⟨n, r⟩ := x
        rw [hx] at h
        simp only [Option.bind_some, Option.some.injEq, Prod.mk.injEq] at h
        obtain ⟨rfl, rfl⟩ := h
        obtain ⟨_, h2⟩ := hn.snd hx
        rw [tText, if_pos rfl, head_tail hc, h2]
        rfl
    · split at h
      · rename_i _ hc
        cases hx : pTerm num f s.tail with
        | none => rw [hx] at h; simp at h
        | some x =>
          obtain ⟨a, r⟩ := x
          rw [hx] at h
          simp only [Option.bind_some] at h
          split at h
          · rename_i hc2
            cases hy : pTerm num f r.tail with
            | none => rw [hy] at h; simp at h
            | some y =>
              obtain ⟨b, r2⟩ := y
              rw [hy] at h
              simp only [Option.bind_some] at h
              split at h
              · rename_i hc3
                simp only [Option.some.injEq, Prod.mk.injEq] at h
                obtain ⟨rfl, rfl⟩ := h
                have h1 := pTerm_snd hn f _ _ _ hx
                have h2 := pTerm_snd hn f _ _ _ hy
                rw [tText, if_neg (by omega), if_neg (by omega), if_pos rfl, head_tail hc, h1, head_tail hc2, h2, head_tail hc3]
                simp [tTexts, tJoin]
              · cases h
          · cases h
      · split at h
        · cases h
        · split at h
          · rename_i _ _ hne hc
            cases hx : pTerm num f (s.dropWhile isAl).tail with
            | none => rw [hx] at h; simp at h
            | some x =>
              obtain ⟨a, r⟩ := x
              rw [hx] at h
              simp only [Option.bind_some] at h
              cases hy : pMore (pTerm num f) (r.length + 1) r with
              | none => rw [hy] at h; simp at h
              | some y =>
                obtain ⟨l, r2⟩ := y
                rw [hy] at h
                simp only [Option.bind_some] at h
                split at h
                · rename_i hc3
                  simp only [Option.some.injEq, Prod.mk.injEq] at h
                  obtain ⟨rfl, rfl⟩ := h
                  have h1 := pTerm_snd hn f _ _ _ hx
                  have h2 := pMore_snd (fun s t rest hs => pTerm_snd hn f s t rest hs) _ _ _ _ hy
                  have h0 := take_drop_while isAl s
                  rw [tText, if_neg (by omega), if_neg (by omega), if_neg (by omega), stB_list, join_more]
                  rw [head_tail hc, h1, h2, head_tail hc3] at h0
                  refine h0.symm.trans ?_
                  simp
                · cases h
          · simp only [Option.some.injEq, Prod.mk.injEq] at h
            obtain ⟨rfl, rfl⟩ := h
            rw [tText, if_neg (by omega), if_pos rfl, stB_list]
            exact (take_drop_while isAl s).symm
/-- What may stand behind a term. -/
def Stop (rest : Txt) : Prop := ∀ c, rest.head? = some c → isAl c = false ∧ c ≠ 40
theorem Stop.nil : Stop [] := fun c h => by simp at h
theorem Stop.one {c : UInt8} (h : isAl c = false ∧ c ≠ 40) (r : Txt) : Stop (c :: r) := fun d hd => by simp at hd; subst hd; exact h
theorem al_small {c : Int} {d : UInt8} (h : c = (d.toNat : Int)) : (isSmall c || isDigit c) = isAl d := by
  subst h
  simp only [isSmall, isDigit, isAl, isSm, isDig]
  congr 1 <;> (congr 1 <;> (apply decide_eq_decide.2; omega))
theorem name_bytes {s : ByteArray} (h : nameOk s = true) : s.data.toList ≠ [] ∧ (∀ c ∈ s.data.toList, isAl c = true) ∧ s.data.toList.head? ≠ some 88 ∧ s.data.toList.head? ≠ some 91 ∧ s.data.toList.length ≤ 32 := by
  simp only [nameOk, Bool.and_eq_true, decide_eq_true_eq, List.all_eq_true] at h
  obtain ⟨⟨⟨h1, h2⟩, h3⟩, h4⟩ := h
  have hsz : s.data.toList.length = s.size := rfl
  have hne : s.data.toList ≠ [] := fun e => by rw [e] at hsz; simp at hsz; omega
  refine ⟨hne, fun c hc => ?_, ?_, ?_, by omega⟩
  · rw [← al_small rfl]
    exact h4 _ (by unfold bytesOf; exact List.mem_map.2 ⟨c, hc, rfl⟩)
  all_goals
    intro he
    have h5 : (bytesOf s).getD 0 0 = ((s.data.toList.head?.getD 0).toNat : Int) := by
      unfold bytesOf
      cases hl : s.data.toList with
      | nil => exact absurd hl hne
      | cons c l => simp
    rw [h5, he] at h3
    simp [isSmall] at h3
theorem pMore_cmp {p : Txt → Option (Tm × Txt)} : ∀ (l : List Tm) (f : Nat) (rest : Txt), (∀ a ∈ l, ∀ rest, Stop rest → p (tText a ++ rest) = some (a, rest)) → l.length < f → rest.head? ≠ some 44 → Stop rest → pMore p f (tMore l ++ rest) = some (l, rest)
  | [], f + 1, rest, _, _, hr, _ => by rw [pMore, if_neg (by simpa [tMore] using hr)]; simp [tMore]
  | a :: l, f + 1, rest, hp, hf, hr, hs => by
    have e : tMore (a :: l) ++ rest = 44 :: (tText a ++ (tMore l ++ rest)) := by simp [tMore]
    have hst : Stop (tMore l ++ rest) := by
      cases l with
      | nil => simpa [tMore] using hs
      | cons b l => exact Stop.one (by decide) _
    rw [e, pMore, List.head?_cons, if_pos rfl, List.tail_cons, hp a (by simp) _ hst]
    simp only [Option.bind_some]
    rw [pMore_cmp l f rest (fun b hb => hp b (by simp [hb])) (by simp at hf; omega) hr hs]
    rfl
theorem tMore_len : ∀ l : List Tm, l.length ≤ (tMore l).length
  | [] => by simp [tMore]
  | a :: l => by have := tMore_len l; simp [tMore] at this ⊢; omega
theorem tMore_mem : ∀ {l : List Tm} {a : Tm}, a ∈ l → (tText a).length ≤ (tMore l).length
  | b :: l, a, h => by
    rcases List.mem_cons.1 h with rfl | h
    · simp [tMore]; omega
    · have := tMore_mem h; simp [tMore] at this ⊢; omega
/-- A right term is told by its text. -/
theorem pTerm_cmp {num : Num} (hn : NumOk num) (t : Tm) : tRight t = true → ∀ (f : Nat) (rest : Txt), (tText t).length < f → Stop rest → pTerm num f (tText t ++ rest) = some (t, rest) := by
  induction t using Tm.ind_ with
  | h k n s l ih =>
    intro ht f rest hf hs
    cases f with
    | zero => omega
    | succ f =>
      rw [tRight, Bool.and_eq_true] at ht
      obtain ⟨hl, ht⟩ := ht
      have hall := (tRights_all l).1 hl
      split at ht
      · rename_i hk
        subst hk
        simp only [Bool.and_eq_true, decide_eq_true_eq] at ht
        obtain ⟨⟨⟨h0, h9⟩, hz⟩, hle⟩ := ht
        obtain rfl := List.length_eq_zero_iff.1 hle
        have hse : s = ⟨#[]⟩ := by cases s with | mk d => simp [ByteArray.size] at hz; simp [hz]
        subst hse
        rw [tText, if_pos rfl, List.cons_append, pTerm, List.head?_cons, if_pos rfl, List.tail_cons, hn.cmp h0 h9 (fun c hc => by have := (hs c hc).1; simp [isAl] at this; exact this.2)]
        rfl
      · split at ht
        · rename_i _ hk
          subst hk
          simp only [Bool.and_eq_true, decide_eq_true_eq] at ht
          obtain ⟨⟨rfl, hnm⟩, hle⟩ := ht
          obtain rfl := List.length_eq_zero_iff.1 hle
          obtain ⟨b1, b2, b3, b4, _⟩ := name_bytes hnm
          have htd := take_stop (p := isAl) (a := s.data.toList) (b := rest) b2 (fun c hc => (hs c hc).1)
          have hh : ∀ c, (s.data.toList ++ rest).head? = some c → s.data.toList.head? = some c := fun c hc => by
            cases hd : s.data.toList with
            | nil => exact absurd hd b1
            | cons x y => rw [hd] at hc; simpa using hc
          rw [tText, if_neg (by omega), if_pos rfl, pTerm, if_neg (fun h => b3 (hh _ h)), if_neg (fun h => b4 (hh _ h)), htd.1, htd.2, if_neg b1, if_neg (fun h => (hs _ h).2 rfl), stB_of]
        · split at ht
          · rename_i _ _ hk
            subst hk
            simp only [Bool.and_eq_true, decide_eq_true_eq] at ht
            obtain ⟨⟨⟨rfl, hnm⟩, hle⟩, hle2⟩ := ht
            obtain ⟨b1, b2, b3, b4, _⟩ := name_bytes hnm
            cases l with
            | nil => simp at hle
            | cons a l =>
              have e : tText (.mk 2 0 s (a :: l)) ++ rest = s.data.toList ++ 40 :: (tText a ++ (tMore l ++ 41 :: rest)) := by
                rw [tText, if_neg (by omega), if_neg (by omega), if_neg (by omega), join_more]
                simp
              have elen : (tText (.mk 2 0 s (a :: l))).length = s.data.toList.length + ((tText a).length + ((tMore l).length + 2)) := by
                rw [tText, if_neg (by omega), if_neg (by omega), if_neg (by omega), join_more]
                simp
                omega
              have htd := take_stop (p := isAl) (a := s.data.toList) (b := 40 :: (tText a ++ (tMore l ++ 41 :: rest))) b2 (fun c hc => by simp at hc; subst hc; decide)
              have hh : ∀ c, (s.data.toList ++ 40 :: (tText a ++ (tMore l ++ 41 :: rest))).head? = some c → s.data.toList.head? = some c := fun c hc => by
                cases hd : s.data.toList with
                | nil => exact absurd hd b1
                | cons x y => rw [hd] at hc; simpa using hc
              have hst : Stop (tMore l ++ 41 :: rest) := by
                cases l with
                | nil => exact Stop.one (by decide) _
                | cons b l => exact Stop.one (by decide) _
              rw [e, pTerm, if_neg (fun h => b3 (hh _ h)), if_neg (fun h => b4 (hh _ h)), htd.1, htd.2, if_neg b1, List.head?_cons, if_pos rfl, List.tail_cons, ih a (by simp) (hall a (by simp)) f _ (by omega) hst]
              simp only [Option.bind_some]
              rw [pMore_cmp l _ (41 :: rest) (fun b hb r hr => ih b (by simp [hb]) (hall b (by simp [hb])) f r (by have := tMore_mem hb; omega) hr) (by have := tMore_len l; simp; omega) (by simp) (Stop.one (by decide) _)]
              simp [stB_of]
          · split at ht
            · rename_i _ _ _ hk
              subst hk
              simp only [Bool.and_eq_true, decide_eq_true_eq] at ht
              obtain ⟨⟨rfl, hz⟩, hle⟩ := ht
              have hse : s = ⟨#[]⟩ := by cases s with | mk d => simp [ByteArray.size] at hz; simp [hz]
              subst hse
              match l, hle, ih, hall, hf with
              | [a, b], _, ih, hall, hf =>
                have e : tText (.mk 3 0 ⟨#[]⟩ [a, b]) ++ rest = 91 :: (tText a ++ 124 :: (tText b ++ 93 :: rest)) := by
                  rw [tText, if_neg (by omega), if_neg (by omega), if_pos rfl]
                  simp [tTexts, tJoin]
                have elen : (tText (.mk 3 0 ⟨#[]⟩ [a, b])).length = (tText a).length + (tText b).length + 3 := by
                  rw [tText, if_neg (by omega), if_neg (by omega), if_pos rfl]
                  simp [tTexts, tJoin]
                  omega
                rw [e, pTerm, List.head?_cons, if_neg (by simp), if_pos rfl, List.tail_cons, ih a (by simp) (hall a (by simp)) f _ (by omega) (Stop.one (by decide) _)]
                simp only [Option.bind_some, List.head?_cons, if_true, List.tail_cons]
                rw [ih b (by simp) (hall b (by simp)) f _ (by omega) (Stop.one (by decide) _)]
                simp
            · cases ht
/-- Of a text the right term is told whose text it is. -/
theorem parse_snd {num : Num} (hn : NumOk num) {s : Txt} {t : Tm} (h : parseTm num s = some t) : tRight t = true ∧ tText t = s := by
  unfold parseTm at h
  split at h
  · rename_i t' hp
    split at h
    · rename_i hr
      cases h
      exact ⟨hr, by simpa using (pTerm_snd hn _ _ _ _ hp).symm⟩
    · cases h
  · cases h
theorem parse_cmp {num : Num} (hn : NumOk num) {t : Tm} (h : tRight t = true) : parseTm num (tText t) = some t := by
  have := pTerm_cmp hn t h ((tText t).length + 1) [] (by omega) Stop.nil
  rw [List.append_nil] at this
  rw [parseTm, this]
  simp [h]
theorem parse_one {num num' : Num} (hn : NumOk num) (hn' : NumOk num') (s : Txt) : parseTm num s = parseTm num' s := by
  cases h : parseTm num s with
  | some t =>
    obtain ⟨h1, h2⟩ := parse_snd hn h
    rw [← h2, parse_cmp hn' h1]
  | none =>
    cases h' : parseTm num' s with
    | none => rfl
    | some t =>
      obtain ⟨h1, h2⟩ := parse_snd hn' h'
      rw [← h2, parse_cmp hn h1] at h
      cases h
theorem text_inj {a b : Tm} (ha : tRight a = true) (hb : tRight b = true) (hn : NumOk numR) (h : tText a = tText b) : a = b := by
  have h1 := parse_cmp hn ha
  rw [h, parse_cmp hn hb] at h1
  exact (Option.some.inj h1).symm

theorem take_dig (a : Txt) : ∀ c ∈ a.takeWhile isDig, isDig c = true := by
  intro c hc
  induction a with
  | nil => simp at hc
  | cons x a ih =>
    rw [List.takeWhile_cons] at hc
    split at hc
    · rcases List.mem_cons.1 hc with rfl | hc
      · assumption
      · exact ih hc
    · simp at hc
theorem numP_ok : NumOk numP := by
  refine ⟨fun {r n rest} h => ?_, fun {n rest} h0 h9 hr => ?_⟩
  · unfold numP at h
    split at h
    · split at h
      · rename_i v _ hv
        simp only [Option.some.injEq, Prod.mk.injEq] at h
        obtain ⟨rfl, rfl⟩ := h
        rw [hv.2]
        exact ⟨hv.1, (take_drop_while isDig r).symm⟩
      · cases h
    · cases h
  · obtain ⟨k, rfl⟩ := Int.eq_ofNat_of_zero_le h0
    have ht := take_stop (p := isDig) (a := Lib.decDigits (k : Int).toNat) (b := rest) (digits_dig _) hr
    unfold numP
    rw [ht.1, ht.2, Int.toNat_natCast, atoi_digits (by omega)]
    simp
theorem numR_ok : NumOk numR := by
  refine ⟨fun {r n rest} h => ?_, fun {n rest} h0 h9 hr => ?_⟩
  · unfold numR at h
    split at h
    · rename_i hv
      simp only [Option.some.injEq, Prod.mk.injEq] at h
      obtain ⟨rfl, rfl⟩ := h
      rw [Int.toNat_natCast, hv]
      refine ⟨by omega, ?_⟩
      have hpre : (r.takeWhile isDig).take 4 = r.take ((r.takeWhile isDig).take 4).length := by
        have h1 : (r.takeWhile isDig).take 4 <+: r := (List.take_prefix 4 _).trans (List.takeWhile_prefix isDig)
        exact List.prefix_iff_eq_take.1 h1
      conv => lhs; rw [← List.take_append_drop ((r.takeWhile isDig).take 4).length r]
      rw [← hpre]
    · cases h
  · obtain ⟨k, rfl⟩ := Int.eq_ofNat_of_zero_le h0
    have ht := take_stop (p := isDig) (a := Lib.decDigits (k : Int).toNat) (b := rest) (digits_dig _) hr
    have hl : (Lib.decDigits (k : Int).toNat).length ≤ 4 := by have := digits_len4 (k : Int).toNat (by omega); omega
    unfold numR
    rw [ht.1, List.take_of_length_le hl, Int.toNat_natCast, valT_digits, if_pos rfl, List.drop_left]
theorem tText_few (t : Tm) : tRight t = true → (tText t).length ≤ 44 * tSize t := by
  induction t using Tm.ind_ with
  | h k n s l ih =>
    intro ht
    rw [tRight, Bool.and_eq_true] at ht
    obtain ⟨hl, ht⟩ := ht
    have hall := (tRights_all l).1 hl
    have hj : ∀ (c : UInt8) (m : List Tm), (∀ a ∈ m, (tText a).length ≤ 44 * tSize a) → (tJoin c (tTexts m)).length ≤ 44 * tSizes m + m.length := fun c m => by
      induction m with
      | nil => intro _; simp [tTexts, tJoin]
      | cons a m ihm =>
        intro hm
        have h1 := hm a (by simp)
        have h2 := ihm (fun b hb => hm b (by simp [hb]))
        rw [tTexts]
        cases m with
        | nil => rw [tTexts, tJoin, tSizes, tSizes]; simp; omega
        | cons b m =>
          rw [tTexts] at h2 ⊢
          rw [tJoin, tSizes]
          simp only [List.length_append, List.length_cons] at h2 ⊢
          omega
    have h3 := fun c => hj c l (fun a ha => ih a ha (hall a ha))
    rw [tText, tSize]
    split at ht
    · rename_i hk
      simp only [Bool.and_eq_true, decide_eq_true_eq] at ht
      obtain ⟨⟨⟨h0, h9⟩, _⟩, _⟩ := ht
      have := digits_len4 n.toNat (by omega)
      rw [if_pos hk, List.length_cons]
      omega
    · rename_i hk0
      rw [if_neg hk0]
      split at ht
      · rename_i hk
        simp only [Bool.and_eq_true, decide_eq_true_eq] at ht
        have := (name_bytes ht.1.2).2.2.2.2
        rw [if_pos hk]
        omega
      · rename_i hk1
        rw [if_neg hk1]
        split at ht
        · rename_i hk
          simp only [Bool.and_eq_true, decide_eq_true_eq] at ht
          have h5 := (name_bytes ht.1.1.2).2.2.2.2
          have h6 := h3 44
          rw [if_neg (by omega)]
          simp only [List.length_append, List.length_cons, List.length_nil]
          omega
        · split at ht
          · rename_i hk
            simp only [Bool.and_eq_true, decide_eq_true_eq] at ht
            have h6 := h3 124
            rw [if_pos hk]
            simp only [List.length_append, List.length_cons, List.length_nil]
            omega
          · cases ht
end Go.Proofs.YtnonfmaehfmigaaDoor

/- A region that draws its order, walked in one order: what reads is taken first under a condition S on the world; what writes comes up alone; behind the last operation S isn't asked. Over any program. -/
namespace Go.Proofs.YtnonfmaehfmigaaDoor
open Go

section
variable {P : Program} {ops : Array Oper} {Q : Exit → Act → World → Prop} {md : Region.Mode} {S : World → Prop}

/-- Whatever order is picked: S holds behind every operation but number n. -/
def wpAnyE (P : Program) (md : Region.Mode) (ops : Array Oper) (Q : Exit → Act → World → Prop) (S : World → Prop) (n : Nat) : Nat → Array Bool → Act → World → Prop
  | 0, listed, a, w => Region.ready md ops listed = [] ∧ Q .normal a w
  | fuel + 1, listed, a, w =>
    (Region.ready md ops listed = [] → Q .normal a w) ∧
    ∀ i ∈ Region.ready md ops listed, wpOp P ops Q i (fun a' w' => (i ≠ n → S w') ∧ wpAnyE P md ops Q S n fuel (listed.setIfInBounds i true) a' w') a w

theorem wpAny_of_E {n : Nat} : ∀ (fuel : Nat) (listed : Array Bool) (a : Act) (w : World), wpAnyE P md ops Q S n fuel listed a w → wpAny P md ops Q fuel listed a w
  | 0, _, _, _, h => h
  | fuel + 1, _, _, _, h => ⟨h.1, fun i hi => wpOp_mono (fun a' w' h' => wpAny_of_E fuel _ a' w' h'.2) (h.2 i hi)⟩

theorem wpAnyE_first {n i : Nat} {oi : Oper} {v : Value} (hi : ops[i]? = some oi) (hsel : ∀ (j : Nat) (o : Oper) cs b, ops[j]? = some o → o.op ≠ .select cs b)
    (hQ : ∀ c a w, Q (.panic c) (a.put oi.dst v) w → Q (.panic c) a w) (hs : Region.sinkB md ops n = true) (hc : Region.chainB md ops n = true) (hn : n < ops.size) (hin : i < n) :
    ∀ (fuel : Nat) (listed : Array Bool) (a : Act) (w : World), HeadInv md ops n listed →
      (∀ j oj, ops[j]? = some oj → j ≠ i → listed.getD j true = false → (∀ e ∈ oj.after, Region.binds md e = true → e.on ≠ i) → oi.apart ops oj = true) →
      i ∈ Region.ready md ops listed → YieldsIf P ops S oi v a → S w →
      wpAnyE P md ops Q S n fuel (listed.setIfInBounds i true) (a.put oi.dst v) w → wpAnyE P md ops Q S n (fuel + 1) listed a w := by
  intro fuel
  induction fuel with
  | zero =>
    intro listed a w _ _ hr hy hS H
    refine ⟨fun h => (by rw [h] at hr; cases hr), fun j hj => ?_⟩
    by_cases hji : j = i
    · subst hji; exact hy.wpOp hi hS ⟨fun _ => hS, H⟩
    · have := ready_mono hj hji
      rw [H.1] at this
      cases this
  | succ fuel ih =>
    intro listed a w inv hfree hr hy hS H
    have hun := (mem_ready.1 hr).1
    refine ⟨fun h => (by rw [h] at hr; cases hr), fun j hj => ?_⟩
    by_cases hji : j = i
    · subst hji; exact hy.wpOp hi hS ⟨fun _ => hS, H⟩
    · have hjn : j < n := by
        rcases Nat.lt_or_ge j n with h | h
        · exact h
        · exact absurd hj (tail_waits hs hc hn inv _ i rfl hin hun j h)
      have h1 := H.2 j (ready_mono hj hji)
      obtain ⟨hjun, oj, hoj, hall⟩ := mem_ready.1 hj
      have hnot : ∀ e ∈ oj.after, Region.binds md e = true → e.on ≠ i := fun e he hb heq => by
        have h1 := hall e he hb
        rw [heq, getD_both hun] at h1
        cases h1
      have h2 := wpOp_putIf hoj (hfree j oj hoj hji hjun hnot) (fun cs b => hsel i oi cs b hi) (fun cs b => hsel j oj cs b hoj) hQ hy h1
      have hfree' : ∀ k ok, ops[k]? = some ok → k ≠ i → (listed.setIfInBounds j true).getD k true = false →
          (∀ e ∈ ok.after, Region.binds md e = true → e.on ≠ i) → oi.apart ops ok = true := fun k ok hk hki hun hno => by
        refine hfree k ok hk hki ?_ hno
        by_cases hjk : j = k
        · subst hjk; exact hjun
        · rw [getD_set_ne true hjk] at hun; exact hun
      refine wpOp_mono (fun a' w' h3 => ⟨h3.2.1, ih (listed.setIfInBounds j true) a' w' (inv.set hj hjn) hfree' (ready_mono hr (Ne.symm hji)) h3.1 (h3.2.1 (by omega)) ?_⟩) h2
      rw [Array.setIfInBounds_comm _ _ hji]
      exact h3.2.2

/-- The k-th of a list of operations. -/
def nthO : List Oper → Nat → Option Oper
  | [], _ => none
  | o :: _, 0 => some o
  | _ :: l, k + 1 => nthO l k
theorem nthO_eq : ∀ (l : List Oper) (k : Nat), l.toArray[k]? = nthO l k
  | [], k => by simp [nthO]
  | o :: l, 0 => by simp [nthO]
  | o :: l, k + 1 => by have := nthO_eq l k; simp only [List.getElem?_toArray, List.getElem?_cons_succ, nthO] at this ⊢; exact this

/-- The walk in the order of a schedule: (k, true): number k is taken first; (k, false): it comes up alone. -/
def wpTx (P : Program) (l : List Oper) (Q : Exit → Act → World → Prop) (S : World → Prop) : List (Nat × Bool) → Act → World → Prop
  | [], a, w => Q .normal a w
  | (k, true) :: r, a, w => ∃ o v, nthO l k = some o ∧ YieldsIf P l.toArray S o v a ∧ S w ∧ wpTx P l Q S r (a.put o.dst v) w
  | (k, false) :: r, a, w => wpOp P l.toArray Q k (fun a' w' => (r ≠ [] → S w') ∧ wpTx P l Q S r a' w') a w

def txB (md : Region.Mode) (ops : Array Oper) (n : Nat) : List (Nat × Bool) → Array Bool → Bool
  | [], listed => (Region.ready md ops listed).isEmpty
  | (k, true) :: r, listed => decide (k < n) && (Region.ready md ops listed).contains k && Region.free md ops listed k && txB md ops n r (listed.setIfInBounds k true)
  | (k, false) :: r, listed => decide (Region.ready md ops listed = [k]) && (if k < n then !r.isEmpty else (k == n && r.isEmpty)) && txB md ops n r (listed.setIfInBounds k true)
def txAllB (md : Region.Mode) (l : List Oper) (sched : List (Nat × Bool)) : Bool :=
  Region.noSelect l.toArray && decide (0 < l.length) && Region.sinkB md l.toArray (l.length - 1) && Region.chainB md l.toArray (l.length - 1) && decide (sched.length = l.length) && txB md l.toArray (l.length - 1) sched (Array.replicate l.length false)

theorem wpAnyE_of_tx {l : List Oper} {n : Nat} (hsel : Region.noSelect l.toArray = true) (hQ : ∀ c a d v w, Q (.panic c) (Act.put a d v) w → Q (.panic c) a w) (hs : Region.sinkB md l.toArray n = true) (hc : Region.chainB md l.toArray n = true) (hn : l.toArray.size = n + 1) :
    ∀ (r : List (Nat × Bool)) (listed : Array Bool) (a : Act) (w : World), HeadInv md l.toArray n listed ∨ r = [] → txB md l.toArray n r listed = true → wpTx P l Q S r a w → wpAnyE P md l.toArray Q S n r.length listed a w
  | [], listed, a, w, _, hB, h => ⟨by simpa [txB] using hB, h⟩
  | (k, true) :: r, listed, a, w, hinv, hB, h => by
    have inv : HeadInv md l.toArray n listed := by rcases hinv with h | h; exact h; cases h
    simp only [txB, Bool.and_eq_true, decide_eq_true_eq] at hB
    obtain ⟨⟨⟨hk, hr⟩, hf⟩, hB'⟩ := hB
    obtain ⟨o, v, ho, hy, hS, h'⟩ := h
    have h0 : l.toArray[k]? = some o := (nthO_eq l k).trans ho
    have hr' : k ∈ Region.ready md l.toArray listed := by simpa using hr
    exact wpAnyE_first h0 (Region.noSelect_spec hsel) (fun c a w => hQ c a _ _ w) hs hc (by omega) hk r.length listed a w inv (Region.free_spec h0 hf) hr' hy hS
      (wpAnyE_of_tx hsel hQ hs hc hn r _ _ _ (.inl (inv.set hr' hk)) hB' h')
  | (k, false) :: r, listed, a, w, hinv, hB, h => by
    have inv : HeadInv md l.toArray n listed := by rcases hinv with h | h; exact h; cases h
    simp only [txB, Bool.and_eq_true, decide_eq_true_eq] at hB
    obtain ⟨⟨hr, hlast⟩, hB'⟩ := hB
    refine ⟨fun h1 => (by rw [hr] at h1; cases h1), fun i hi => ?_⟩
    have hik : i = k := by rw [hr] at hi; simpa using hi
    subst hik
    have h1 : i ≠ n → r ≠ [] := fun hne hr0 => by
      subst hr0
      split at hlast
      · simp at hlast
      · simp at hlast; exact hne hlast
    have h2 : HeadInv md l.toArray n (listed.setIfInBounds i true) ∨ r = [] := by
      split at hlast
      · rename_i hkn; exact .inl (inv.set hi hkn)
      · simp at hlast; exact .inr hlast.2
    exact wpOp_mono (fun a' w' h' => ⟨fun hne => h'.1 (h1 hne), wpAnyE_of_tx hsel hQ hs hc hn r _ a' w' h2 hB' h'.2⟩) h

theorem wp_region_tx {id : Nat} {l : List Oper} {a : Act} {w : World} (S : World → Prop) (sched : List (Nat × Bool)) (hm : P.follows .mixedOrders = true) (hB : txAllB .any l sched = true)
    (hS : S w.drew) (h : S w.drew → wpTx P l (NoPanic Q) S sched a w.drew) : (Code.region id l.toArray true).wp P Q a w := by
  refine wp_region_noPanic ?_
  have hQ : ∀ c a d v w, NoPanic Q (.panic c) (Act.put a d v) w → NoPanic Q (.panic c) a w := fun _ _ _ _ _ h => h
  simp only [txAllB, Bool.and_eq_true, decide_eq_true_eq] at hB
  obtain ⟨⟨⟨⟨⟨hsel, hl⟩, hs⟩, hc⟩, hlen⟩, hB⟩ := hB
  have hn : l.toArray.size = (l.length - 1) + 1 := by simp; omega
  have inv0 : HeadInv .any l.toArray (l.length - 1) (Array.replicate l.length false) :=
    ⟨by simp, fun j oj _ hl => (by rw [getD_replicate_false] at hl; cases hl), fun t _ ht => getD_in (by simpa using ht) (getD_replicate_false _ _)⟩
  have H := wpAnyE_of_tx hsel hQ hs hc hn sched _ a w.drew (.inl inv0) hB (h hS)
  rw [hlen] at H
  refine wp_region_any hm (wpAny_of_E (S := S) (n := l.length - 1) _ _ _ _ ?_)
  rw [show l.toArray.size = l.length by simp]
  exact H

theorem wpTx_take {l : List Oper} {k : Nat} {r : List (Nat × Bool)} {o : Oper} {v : Value} {a : Act} {w : World} (ho : nthO l k = some o) (hS : S w)
    (hy : ∀ w, S w → (execOp a.eval o).run P w = .ok (.value v) w) (hw : Region.wanted o (yielded l.toArray a.tmps) = true) (h : wpTx P l Q S r (a.put o.dst v) w) : wpTx P l Q S ((k, true) :: r) a w :=
  ⟨o, v, ho, .inl ⟨hw, hy⟩, hS, h⟩
theorem wpTx_skip {l : List Oper} {k : Nat} {r : List (Nat × Bool)} {o : Oper} {a : Act} {w : World} (ho : nthO l k = some o) (hS : S w)
    (hw : Region.wanted o (yielded l.toArray a.tmps) = false) (h : wpTx P l Q S r (a.put o.dst undef) w) : wpTx P l Q S ((k, true) :: r) a w :=
  ⟨o, undef, ho, .inr ⟨hw, rfl⟩, hS, h⟩
theorem wpTx_go {l : List Oper} {k : Nat} {x : Nat × Bool} {r : List (Nat × Bool)} {o : Oper} {a : Act} {w : World} (ho : nthO l k = some o)
    (h : ∀ K : Act → World → Prop, Shut (∀ a w, S w → (S w → wpTx P l Q S (x :: r) a w) → K a w) → if Region.wanted o (yielded l.toArray a.tmps) = true then Oper.wp P o a w K Q else K (a.put o.dst undef) w) : wpTx P l Q S ((k, false) :: x :: r) a w :=
  wpOp_step ((nthO_eq l k).trans ho) (fun K hK => h K (fun a w hS hW => hK a w ⟨fun _ => hS, hW hS⟩))
theorem wpTx_last {l : List Oper} {k : Nat} {o : Oper} {a : Act} {w : World} (ho : nthO l k = some o)
    (h : ∀ K : Act → World → Prop, Shut (∀ a w, Q .normal a w → K a w) → if Region.wanted o (yielded l.toArray a.tmps) = true then Oper.wp P o a w K Q else K (a.put o.dst undef) w) : wpTx P l Q S [(k, false)] a w :=
  wpOp_step ((nthO_eq l k).trans ho) (fun K hK => h K (fun a w hq => hK a w ⟨fun h => absurd rfl h, hq⟩))
end
end Go.Proofs.YtnonfmaehfmigaaDoor

/- A term that is made part by part. -/
namespace Go.Proofs.YtnonfmaehfmigaaDoor
open Go.RowKit

theorem own_setN {w : World} {base n size : Nat} {e : TypeId} {v : Value} {xs : List Value} (h : w.ownsRow base e size v n xs) {g : Nat} (hg : g ∉ ownL v) (i : Nat) (u : Value) : (w.setCell ⟨g, i, none⟩ u).ownsRow base e size v n xs := by
  refine ⟨h.1, ?_⟩
  rcases h.2 with h2 | ⟨g2, cap, cur, he, hb2, hb, r⟩
  · exact .inl h2
  · refine .inr ⟨g2, cap, cur, he, hb2, (Below.heap_setCell _ _ _ _ ?_).trans hb, r⟩
    rintro rfl
    subst he
    exact hg (by simp [ownL, Value.ownBlock])
theorem own_lt {w : World} {base n size : Nat} {e : TypeId} {v : Value} {xs : List Value} (h : w.ownsRow base e size v n xs) {b : Nat} (hb : b ∈ ownL v) : base ≤ b ∧ b < w.heap.size := by
  unfold ownL at hb
  simp at hb
  exact h.lt b hb
theorem own_zeroN {w : World} {base n c size : Nat} {e : TypeId} {xs : List Value} (h : w.ownsRow base e size (.slice none n c) n xs) : c = 0 := by
  rcases h.2 with ⟨h2, _⟩ | ⟨g2, cap, cur, he, _⟩
  · injection h2
  · injection he with he; cases he
theorem own_keepL {w w' : World} {L : List Nat} {base n size c : Nat} {e : TypeId} {A : Option Addr} {xs : List Value} (h : w.ownsRow base e size (.slice A n c) n xs) (k : Keeps w w' L) (hL : ∀ b ∈ L, b ∉ ownL (.slice A n c)) : w'.ownsRow base e size (.slice A n c) n xs := by
  refine ⟨h.1, ?_⟩
  rcases h.2 with h2 | ⟨g, cap, cur, he, hb, hg, r⟩
  · exact .inl h2
  · refine .inr ⟨g, cap, cur, he, hb, (k.block g (Array.getElem?_eq_some_iff.1 hg).1 (fun hm => hL g hm ?_)).trans hg, r⟩
    rw [he]
    simp [ownL, Value.ownBlock]
/-- What stands while a term is made: blocks that stay (F), the term's block (g), its parts so far. -/
structure TSt (tg : TypeId) (S0 : Nat → Prop) (w wr : World) (L : List Nat) (F : List (Nat × TypeId × Array Value)) (g : Nat) (k n : Int) (s : ByteArray) (l : List Tm) (vs : List TV) (A : Option Addr) (j c : Nat) : Prop where
  fix : ∀ x ∈ F, Blk wr x.1 x.2.1 x.2.2 ∧ x.1 ∉ ownL (.slice A j c) ∧ x.1 ≠ g
  out : Blk wr g tg #[.int .i64 k, .int .i64 n, .string s, .slice A j c]
  row : wr.ownsRow w.heap.size tg 4 (.slice A j c) j (vs.flatMap tvE)
  trs : Trs wr (fun b => S0 b ∧ b ≠ g ∧ (∀ x ∈ F, b ≠ x.1) ∧ b ∉ ownL (.slice A j c)) l vs
  len : l.length = j
  keep : Keeps w wr L
  low : w.heap.size ≤ g ∧ g ∉ ownL (.slice A j c) ∧ ∀ b, w.heap.size ≤ b → S0 b
  sz : s.size ≤ 9223372036854775807
def TDone (L : List Nat) (S0 : Nat → Prop) (w : World) (t : Tm) (e : Ending) (w' : World) : Prop := ∃ v, e = .returned (tvV v) ∧ Tr w' S0 t v ∧ Keeps w w' L

section
variable {tg : TypeId} {S0 : Nat → Prop} {w wr : World} {L : List Nat} {F : List (Nat × TypeId × Array Value)} {g : Nat} {k n : Int} {s : ByteArray} {l : List Tm} {vs : List TV} {A : Option Addr} {j c : Nat}
theorem TSt.start (hF : ∀ x ∈ F, Blk wr x.1 x.2.1 x.2.2 ∧ x.1 ≠ g) (out : Blk wr g tg #[.int .i64 k, .int .i64 n, .string s, .slice none 0 0]) (keep : Keeps w wr L) (low : w.heap.size ≤ g) (hS : ∀ b, w.heap.size ≤ b → S0 b) (sz : s.size ≤ 9223372036854775807) : TSt tg S0 w wr L F g k n s [] [] none 0 0 :=
  ⟨fun x hx => ⟨(hF x hx).1, by simp [ownL, Value.ownBlock], (hF x hx).2⟩, out, World.ownsRow_nil _ _ _ _, Trs.nil, rfl, keep, ⟨low, by simp [ownL, Value.ownBlock], hS⟩, sz⟩
theorem TSt.keep0 (st : TSt tg S0 w wr L F g k n s l vs A j c) {W : World} (kk : Keeps wr W []) : TSt tg S0 w W L F g k n s l vs A j c :=
  ⟨fun x hx => ⟨(st.fix x hx).1.keep kk (by simp), (st.fix x hx).2⟩, st.out.keep kk (by simp), own_keep0 st.row kk, st.trs.keep kk, st.len, st.keep.trans (kk.to_ L), st.low, st.sz⟩
/-- Blocks of L turn. -/
theorem TSt.keepL (st : TSt tg S0 w wr L F g k n s l vs A j c) {W : World} (kk : Keeps wr W L) (h1 : ∀ b ∈ L, b < w.heap.size) (h2 : ∀ x ∈ F, x.1 ∉ L) (h3 : ∀ b ∈ L, ¬ S0 b) : TSt tg S0 w W L F g k n s l vs A j c :=
  ⟨fun x hx => ⟨(st.fix x hx).1.keep kk (h2 x hx), (st.fix x hx).2⟩, st.out.keep kk (fun h => by have := h1 _ h; have := st.low.1; omega), own_keepL st.row kk (fun b hb hm => by have := h1 b hb; have := (own_lt st.row hm).1; omega), st.trs.keepL kk (fun b hb h => h3 b hb h.1), st.len, st.keep.trans kk, st.low, st.sz⟩
/-- A part of what is new. -/
theorem TSt.fresh (st : TSt tg S0 w wr L F g k n s l vs A j c) {W : World} {t : Tm} {v : TV} (h : Tr W (fun b => wr.heap.size ≤ b) t v) : Tr W (fun b => S0 b ∧ b ≠ g ∧ (∀ x ∈ F, b ≠ x.1) ∧ b ∉ ownL (.slice A j c)) t v := by
  refine h.mono fun b hb => ⟨st.low.2.2 b (Nat.le_trans st.keep.size hb), fun e => ?_, fun x hx e => ?_, fun hm => ?_⟩
  · have := st.out.lt; omega
  · have := (st.fix x hx).1.lt; omega
  · have := (own_lt st.row hm).2; omega
theorem TSt.step (st0 : TSt tg S0 w wr L F g k n s l vs A j c) {W W2 : World} (kk : Keeps wr W []) {t : Tm} {v : TV} (ht : Tr W (fun b => S0 b ∧ b ≠ g ∧ (∀ x ∈ F, b ≠ x.1) ∧ b ∉ ownL (.slice A j c)) t v) {A' : Option Addr} {c' : Nat}
    (hown : W2.ownsRow w.heap.size tg 4 (.slice A' (j + 1) c') (j + 1) (vs.flatMap tvE ++ tvE v)) (hg : W.grownBy W2 (Value.slice A j c).ownBlock)
    (hat : (Value.slice A' (j + 1) c').ownBlock = (Value.slice A j c).ownBlock ∨ (Value.slice A' (j + 1) c').ownBlock = some W.heap.size) :
    TSt tg S0 w (W2.setCell ⟨g, 3, none⟩ (.slice A' (j + 1) c')) L F g k n s (l ++ [t]) (vs ++ [v]) A' (j + 1) c' := by
  have st := st0.keep0 kk
  have hno : ∀ b, b < W.heap.size → b ∉ ownL (.slice A j c) → b ∉ ownL (.slice A' (j + 1) c') := fun b hb hn hm => by
    unfold ownL at hn hm
    simp only [Option.mem_toList] at hn hm
    rcases hat with h | h
    · rw [h] at hm; exact hn hm
    · rw [h] at hm; simp at hm; omega
  have hrow : ∀ b, b ∉ ownL (.slice A j c) → some b ≠ (Value.slice A j c).ownBlock := fun b hn e => hn (by unfold ownL; rw [← e]; simp)
  have kg : Keeps W W2 (ownL (.slice A j c)) := Keeps.ofGrown hg
  have ks : Keeps W2 (W2.setCell ⟨g, 3, none⟩ (.slice A' (j + 1) c')) [g] := (Keeps.refl W2 [g]).setCell (.inl (by simp)) _
  have hgn := hno g st.out.lt st.low.2.1
  have og := st.out.grown hg (hrow g st.low.2.1)
  have tr2 : Trs (W2.setCell ⟨g, 3, none⟩ (.slice A' (j + 1) c')) (fun b => (S0 b ∧ b ≠ g ∧ (∀ x ∈ F, b ≠ x.1) ∧ b ∉ ownL (.slice A j c)) ∧ b < W.heap.size) l vs :=
    (st.trs.here.keepL kg (fun b hb h => h.1.2.2.2 hb)).keepL ks (fun b hb h => h.1.2.1 (by simpa using hb))
  have tr3 : Tr (W2.setCell ⟨g, 3, none⟩ (.slice A' (j + 1) c')) (fun b => (S0 b ∧ b ≠ g ∧ (∀ x ∈ F, b ≠ x.1) ∧ b ∉ ownL (.slice A j c)) ∧ b < W.heap.size) t v :=
    (ht.here.keepL kg (fun b hb h => h.1.2.2.2 hb)).keepL ks (fun b hb h => h.1.2.1 (by simpa using hb))
  refine ⟨fun x hx => ?_, by have := og.set_ 3 (.slice A' (j + 1) c'); simpa using this, ?_, (tr2.snoc tr3).mono fun b hb => ⟨hb.1.1, hb.1.2.1, hb.1.2.2.1, hno b hb.2 hb.1.2.2.2⟩, by simp [st.len], (st.keep.app st.row (Nat.le_refl _) hg).setCell (.inr st.low.1) _, ⟨st.low.1, hgn, st.low.2.2⟩, st.sz⟩
  · obtain ⟨f1, f2, f3⟩ := st.fix x hx
    exact ⟨(f1.grown hg (hrow _ f2)).far f3 _, hno _ f1.lt f2, f3⟩
  · rw [List.flatMap_append, show ([v] : List TV).flatMap tvE = tvE v by simp]
    exact own_setN hown hgn _ _
theorem TSt.done (st : TSt tg S0 w wr L F g k n s l vs A j c) (hj : j ≤ 9223372036854775807) : Tr wr (fun b => S0 b ∧ b ≠ g ∧ ∀ x ∈ F, b ≠ x.1) (.mk k n s l) ⟨k, n, s, A, j, c⟩ := by
  have h := st.len
  subst h
  refine .mk k n s l A c vs st.trs.len (Rd.of_own st.row) (fun b off e hne => ?_) (fun e => by subst e; exact own_zeroN st.row) ⟨st.sz, hj⟩ (fun j t v h1 h2 => (st.trs.at_ j t v h1 h2).mono fun b hb => ⟨hb.1, hb.2.1, hb.2.2.1⟩)
  subst e
  have hm : b ∈ ownL (.slice (some ⟨b, off, none⟩) l.length c) := by simp [ownL, Value.ownBlock]
  exact ⟨st.low.2.2 b (own_lt st.row hm).1, fun e => st.low.2.1 (by rw [← e]; exact hm), fun x hx e => (st.fix x hx).2.1 (by rw [← e]; exact hm)⟩
end
/-- The result's block is written at the end. -/
theorem Tr.end4 {w wr : World} {S0 : Nat → Prop} {t : Tm} {v : TV} {rb : Nat} (h : Tr wr (fun b => S0 b ∧ b ≠ rb) t v) (v0 v1 v2 v3 : Value) {L : List Nat} (hk : Keeps w wr L) (hb : w.heap.size ≤ rb) :
    TDone L S0 w t (.returned (tvV v)) ((((wr.setCell ⟨rb, 0, none⟩ v0).setCell ⟨rb, 1, none⟩ v1).setCell ⟨rb, 2, none⟩ v2).setCell ⟨rb, 3, none⟩ v3) := by
  have ks : Keeps wr ((((wr.setCell ⟨rb, 0, none⟩ v0).setCell ⟨rb, 1, none⟩ v1).setCell ⟨rb, 2, none⟩ v2).setCell ⟨rb, 3, none⟩ v3) [rb] := (((((Keeps.refl wr [rb]).setCell (.inl (by simp)) _).setCell (.inl (by simp)) _).setCell (.inl (by simp)) _).setCell (.inl (by simp)) _)
  exact ⟨v, rfl, (h.keepL ks (fun b hb h => h.2 (by simpa using hb))).mono fun b hb => hb.1, ((((hk.setCell (.inr hb) _).setCell (.inr hb) _).setCell (.inr hb) _).setCell (.inr hb) _)⟩
theorem el_pterm : ElemT Tryd.prog 32 34 4 := elemT_of (b := 56) (z := .agg #[.int .i64 0, .int .i64 0, .string ⟨#[]⟩, .slice none 0 0]) Tryd.underlying32 (by kernel_rfl) (by omega) rfl (by omega)
theorem el_rterm : ElemT Tryd.prog 22 24 4 := elemT_of (b := 56) (z := .agg #[.int .i64 0, .int .i64 0, .string ⟨#[]⟩, .slice none 0 0]) Tryd.underlying22 (by kernel_rfl) (by omega) rfl (by omega)
end Go.Proofs.YtnonfmaehfmigaaDoor

/- Terms: how many parts; few? -/
namespace Go.Proofs.YtnonfmaehfmigaaDoor
open Go.RowKit

theorem tSizes_take {l : List Tm} {k : Nat} {a : Tm} (h : l[k]? = some a) : tSizes (l.take (k + 1)) = tSizes (l.take k) + tSize a := by
  rw [List.take_add_one, h]
  exact tSizes_snoc _ _
theorem tSizes_le (l : List Tm) (k : Nat) : tSizes (l.take k) ≤ tSizes l := by
  induction l generalizing k with
  | nil => simp
  | cons a l ih =>
    cases k with
    | zero => simp [tSizes]
    | succ k => rw [List.take_succ_cons, tSizes, tSizes]; have := ih k; omega

/-! ### Few -/
mutual
def tFew : Tm → Int → Int → Int
  | .mk _ _ s l, d, f => if d ≤ 0 ∨ f - 1 - s.size / 40 < 0 then -1 else tFews l (d - 1) (f - 1 - s.size / 40)
def tFews : List Tm → Int → Int → Int
  | [], _, f => f
  | a :: l, d, f => if tFew a d f < 0 then -1 else tFews l d (tFew a d f)
end
mutual
theorem tFew_size : ∀ (t : Tm) (d f : Int), 0 ≤ tFew t d f → tFew t d f + tSize t ≤ f
  | .mk k n s l, d, f, h => by
    rw [tFew] at h ⊢
    split at h
    · omega
    · rename_i hc
      rw [if_neg hc, tSize]
      have := tFews_size l (d - 1) (f - 1 - s.size / 40) h
      have h0 : (0 : Int) ≤ (s.size : Int) / 40 := by omega
      omega
theorem tFews_size : ∀ (l : List Tm) (d f : Int), 0 ≤ tFews l d f → tFews l d f + tSizes l ≤ f
  | [], d, f, _ => by simp [tFews, tSizes]
  | a :: l, d, f, h => by
    rw [tFews] at h ⊢
    split at h
    · omega
    · rename_i hc
      rw [if_neg hc, tSizes]
      have h1 := tFew_size a d f (by omega)
      have h2 := tFews_size l d _ h
      omega
end
theorem tFews_snoc : ∀ (l : List Tm) (a : Tm) (d f : Int), 0 ≤ tFews l d f → tFews (l ++ [a]) d f = if tFew a d (tFews l d f) < 0 then -1 else tFew a d (tFews l d f)
  | [], a, d, f, _ => by rw [List.nil_append, tFews, tFews, tFews]
  | b :: l, a, d, f, h => by
    rw [tFews] at h
    split at h
    · omega
    · rename_i hc
      rw [List.cons_append, tFews, if_neg hc, tFews, if_neg hc, tFews_snoc l a d _ h]
theorem tFews_stop : ∀ (l m : List Tm) (d f : Int), tFews l d f = -1 → 0 ≤ f → tFews (l ++ m) d f = -1
  | [], m, d, f, h, hf => by simp [tFews] at h; omega
  | a :: l, m, d, f, h, hf => by
    rw [tFews] at h
    rw [List.cons_append, tFews]
    split at h
    · rename_i hc; rw [if_pos hc]
    · rename_i hc; rw [if_neg hc]; exact tFews_stop l m d _ h (by omega)
theorem tFew_ge (t : Tm) (d f : Int) (h : ¬ 0 ≤ tFew t d f) : tFew t d f = -1 := by
  have key : ∀ (l : List Tm) (d f : Int), 0 ≤ f → ¬ 0 ≤ tFews l d f → tFews l d f = -1 := fun l => by
    induction l with
    | nil => intro d f hf h; simp [tFews] at h; omega
    | cons a l ih =>
      intro d f hf h
      rw [tFews] at h ⊢
      split at h
      · rename_i hc; rw [if_pos hc]
      · rename_i hc; rw [if_neg hc]; exact ih d _ (by omega) h
  cases t with
  | mk k n s l =>
    rw [tFew] at h ⊢
    split at h
    · rename_i hc; rw [if_pos hc]
    · rename_i hc; rw [if_neg hc]; exact key l _ _ (by omega) h

end Go.Proofs.YtnonfmaehfmigaaDoor

/- Terms: the program's Vars. -/
namespace Go.Proofs.YtnonfmaehfmigaaDoor
open Go.RowKit

theorem el_int : ElemT Tryd.prog 58 3 1 := elemT_of (b := 8) (z := .int .i64 0) Tryd.underlying58 (by kernel_rfl) (by omega) rfl (by omega)
def hasI (x : Int) : Int → Bool := fun y => x == y
/-! ### Which variables -/
def addV (acc : List Int) (n : Int) : List Int := if acc.any (hasI n) then acc else acc ++ [n]
mutual
def tWalk : List Int → Tm → List Int
  | acc, .mk k n _ l => tWalks (if k = 0 then addV acc n else acc) l
def tWalks : List Int → List Tm → List Int
  | acc, [] => acc
  | acc, a :: l => tWalks (tWalk acc a) l
end
theorem tWalks_snoc : ∀ (acc : List Int) (l : List Tm) (a : Tm), tWalks acc (l ++ [a]) = tWalk (tWalks acc l) a
  | acc, [], a => by simp [tWalks]
  | acc, b :: l, a => by rw [List.cons_append, tWalks, tWalks, tWalks_snoc (tWalk acc b) l a]
theorem addV_len (acc : List Int) (n : Int) : (addV acc n).length ≤ acc.length + 1 := by unfold addV; split <;> simp
mutual
theorem tWalk_len : ∀ (acc : List Int) (t : Tm), (tWalk acc t).length ≤ acc.length + tSize t
  | acc, .mk k n s l => by
    rw [tWalk, tSize]
    have h1 := tWalks_len (if k = 0 then addV acc n else acc) l
    have h2 : (if k = 0 then addV acc n else acc).length ≤ acc.length + 1 := by split; exact addV_len acc n; omega
    omega
theorem tWalks_len : ∀ (acc : List Int) (l : List Tm), (tWalks acc l).length ≤ acc.length + tSizes l
  | acc, [] => by simp [tWalks]
  | acc, a :: l => by
    rw [tWalks, tSizes]
    have h1 := tWalk_len acc a
    have h2 := tWalks_len (tWalk acc a) l
    omega
end
/-- Blocks that hold no numbers, and all below a base, stay, but for one. -/
structure VK (base ob : Nat) (w w' : World) : Prop where
  os : w'.os = w.os
  tape : w'.tape = w.tape
  output : w'.output = w.output
  size : w.heap.size ≤ w'.heap.size
  block : ∀ k, k < w.heap.size → k ≠ ob → (k < base ∨ ∃ cs t fr, w.heap[k]? = some (.cells cs t fr) ∧ t ≠ 3) → w'.heap[k]? = w.heap[k]?
theorem VK.of_keeps {base ob : Nat} {w w' : World} (k : Keeps w w' []) : VK base ob w w' := ⟨k.os, k.tape, k.output, k.size, fun i hi _ _ => k.block i hi (by simp)⟩
theorem VK.trans {base ob : Nat} {a b c : World} (h : VK base ob a b) (k : VK base ob b c) : VK base ob a c :=
  ⟨k.os.trans h.os, k.tape.trans h.tape, k.output.trans h.output, Nat.le_trans h.size k.size, fun i hi hn ht => by
    have h1 := h.block i hi hn ht
    refine (k.block i (Nat.lt_of_lt_of_le hi h.size) hn ?_).trans h1
    rcases ht with ht | ⟨cs, t, fr, hc, hne⟩
    · exact .inl ht
    · exact .inr ⟨cs, t, fr, h1.trans hc, hne⟩⟩
theorem VK.blk {base ob : Nat} {w w' : World} (k : VK base ob w w') {g : Nat} {t : TypeId} {cs : Array Value} (h : Blk w g t cs) (hn : g ≠ ob) (ht : t ≠ 3) : Blk w' g t cs :=
  (k.block g h.lt hn (.inr ⟨cs, t, (0, 0), h, ht⟩)).trans h
theorem VK.low {base ob : Nat} {w w' : World} (k : VK base ob w w') (hb : base ≤ ob) {b off : Nat} (hlt : b < base) (hs : b < w.heap.size) : w'.cell? ⟨b, off, none⟩ = w.cell? ⟨b, off, none⟩ :=
  World.cell?_of_block (k.block b hs (by omega) (.inl hlt))
/-- What was found so far. -/
def VSt (base ob : Nat) (acc : List Int) (w : World) : Prop := base ≤ ob ∧ ∃ A c, Blk w ob 58 #[.slice A acc.length c] ∧ w.ownsRow base 3 1 (.slice A acc.length c) acc.length (acc.map (Value.int .i64))
theorem VSt.keep {base ob : Nat} {acc : List Int} {w w' : World} (h : VSt base ob acc w) (k : Keeps w w' []) : VSt base ob acc w' := by
  obtain ⟨h0, A, c, hb, ho⟩ := h
  exact ⟨h0, A, c, hb.keep k (by simp), own_keep0 ho k⟩

theorem Rd.vk {base ob : Nat} {w w' : World} (k : VK base ob w w') (hb : base ≤ ob) {A : Option Addr} {vs : List Value} (h : Rd w A vs) (hA : ∀ b off, A = some ⟨b, off, none⟩ → vs ≠ [] → b < base) : Rd w' A vs := by
  intro i hi
  obtain ⟨b, off, v, e, hlt, hc, hv⟩ := h i hi
  exact ⟨b, off, v, e, Nat.lt_of_lt_of_le hlt k.size, (k.low hb (hA b off e (fun h0 => by subst h0; simp at hi)) hlt).trans hc, hv⟩
theorem Tr.vk {base ob : Nat} {w w' : World} (k : VK base ob w w') (hb : base ≤ ob) {t : Tm} {v : TV} (h : Tr w (fun b => b < base) t v) : Tr w' (fun b => b < base) t v := by
  induction h with
  | mk k' n s l A c vs hl hR hS hc hz hk ih => exact .mk k' n s l A c vs hl (hR.vk k hb (fun b off e hne => hS b off e (flat_ne hl hne))) hS hc hz ih

theorem addV_ge (acc : List Int) (n : Int) : acc.length ≤ (addV acc n).length := by unfold addV; split <;> simp
mutual
theorem tWalk_ge : ∀ (acc : List Int) (t : Tm), acc.length ≤ (tWalk acc t).length
  | acc, .mk k n s l => by
    rw [tWalk]
    refine Nat.le_trans ?_ (tWalks_ge _ l)
    split
    · exact addV_ge acc n
    · exact Nat.le_refl _
theorem tWalks_ge : ∀ (acc : List Int) (l : List Tm), acc.length ≤ (tWalks acc l).length
  | acc, [] => by rw [tWalks]; exact Nat.le_refl _
  | acc, a :: l => by rw [tWalks]; exact Nat.le_trans (tWalk_ge acc a) (tWalks_ge _ l)
end
theorem tWalks_app : ∀ (acc : List Int) (l m : List Tm), tWalks acc (l ++ m) = tWalks (tWalks acc l) m
  | acc, [], m => by rw [List.nil_append, tWalks]
  | acc, a :: l, m => by rw [List.cons_append, tWalks, tWalks, tWalks_app _ l m]
theorem tWalks_take (acc : List Int) (l : List Tm) (j : Nat) : (tWalks acc (l.take j)).length ≤ (tWalks acc l).length := by
  have h := tWalks_app acc (l.take j) (l.drop j)
  rw [List.take_append_drop] at h
  rw [h]
  exact tWalks_ge _ _

def tVars (l : List Tm) : List Int := tWalks [] l
theorem VK.keeps {w w' : World} {ob : Nat} (k : VK w.heap.size ob w w') (h : w.heap.size ≤ ob) : Keeps w w' [] := ⟨k.os, k.tape, k.output, k.size, fun i hi _ => k.block i hi (by omega) (.inl hi)⟩
theorem VSt.nums {base ob : Nat} {acc : List Int} {w : World} (h : VSt base ob acc w) : ∃ A c, Blk w ob 58 #[.slice A acc.length c] ∧ Nums .i64 w w.heap.size A acc := by
  obtain ⟨_, A, c, hb, ho⟩ := h
  obtain ⟨A', c', hv, _, hN⟩ := Nums.of_own ho
  injection hv with h1 h2 h3
  exact ⟨A, c, hb, by rw [h1]; exact hN⟩
theorem tVars_sizes (l : List Tm) : (tVars l).length ≤ tSizes l := by
  have := tWalks_len [] l
  unfold tVars
  simpa using this
end Go.Proofs.YtnonfmaehfmigaaDoor

/- A term's four cells, written. -/
namespace Go.Proofs.YtnonfmaehfmigaaDoor
open Go.RowKit

def set4 (w : World) (g : Nat) (v0 v1 v2 v3 : Value) : World := (((w.setCell ⟨g, 0, none⟩ v0).setCell ⟨g, 1, none⟩ v1).setCell ⟨g, 2, none⟩ v2).setCell ⟨g, 3, none⟩ v3
theorem Blk.put4 {w : World} {g : Nat} {t : TypeId} {a b c d : Value} (h : Blk w g t #[a, b, c, d]) (v0 v1 v2 v3 : Value) : Blk (set4 w g v0 v1 v2 v3) g t #[v0, v1, v2, v3] := by
  have := (((h.set_ 0 v0).set_ 1 v1).set_ 2 v2).set_ 3 v3
  unfold set4
  simpa using this
theorem Blk.far4 {w : World} {g g' : Nat} {t : TypeId} {cs : Array Value} (h : Blk w g t cs) (hne : g ≠ g') (v0 v1 v2 v3 : Value) : Blk (set4 w g' v0 v1 v2 v3) g t cs :=
  (((h.far (p := ⟨g', 0, none⟩) hne v0).far (p := ⟨g', 1, none⟩) hne v1).far (p := ⟨g', 2, none⟩) hne v2).far (p := ⟨g', 3, none⟩) hne v3
theorem Keeps.put4 {a w : World} {L : List Nat} (h : Keeps a w L) {g : Nat} (hb : g ∈ L ∨ a.heap.size ≤ g) (v0 v1 v2 v3 : Value) : Keeps a (set4 w g v0 v1 v2 v3) L :=
  (((h.setCell (p := ⟨g, 0, none⟩) hb v0).setCell (p := ⟨g, 1, none⟩) hb v1).setCell (p := ⟨g, 2, none⟩) hb v2).setCell (p := ⟨g, 3, none⟩) hb v3
theorem Tr.far4 {w : World} {S : Nat → Prop} {t : Tm} {v : TV} (h : Tr w S t v) {g : Nat} (hg : ¬ S g) (v0 v1 v2 v3 : Value) : Tr (set4 w g v0 v1 v2 v3) S t v :=
  h.keepL ((Keeps.refl w [g]).put4 (.inl (by simp)) v0 v1 v2 v3) (fun b hb => by obtain rfl := List.mem_singleton.1 hb; exact hg)
theorem set4_size (w : World) (g : Nat) (v0 v1 v2 v3 : Value) : (set4 w g v0 v1 v2 v3).heap.size = w.heap.size := by simp [set4, World.setCell]
end Go.Proofs.YtnonfmaehfmigaaDoor
