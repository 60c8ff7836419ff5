/- Instructions as texts: the plain law. -/
import Derived.Test.YtpcihhdalofdiaaGreatDoorOpE
import Derived.Lib.ItoaNum
import Derived.Lib.AtoiAll
import Derived.Lib.AtoiAllCases
import Derived.Lib.SlTrimSet
namespace Go.Proofs.YtpcihhdalofdiaaGreatDoor
open Go.RowKit

abbrev Txt := List UInt8
/-- An operand in words. -/
def opTxt (k n : Nat) : Txt :=
  if k = 1 ∧ 16 ≤ n then 89 :: Lib.decDigits (n - 16) else if k = 1 ∨ k = 2 then 88 :: Lib.decDigits n else if k = 9 then 89 :: Lib.decDigits n else if n = 65535 then [45] else Lib.decDigits n
def nameT (op : Int) : Txt := (nameOf op).data.toList
def wordsOf (i : LIns) : List Txt := nameT i.op :: (List.range (kindsOf i.op).length).map fun j => opTxt ((kindsOf i.op).getD j 0).toNat (i.arg j).toNat
def joinT : List Txt → Txt
  | [] => []
  | [x] => x
  | x :: y :: l => x ++ 32 :: joinT (y :: l)
def insTxt (i : LIns) : Txt := if insOk i then joinT (wordsOf i) else []
/-- What stands between blanks. -/
def splitT : Txt → List Txt
  | [] => [[]]
  | c :: l => if c = 32 then [] :: splitT l else match splitT l with
    | [] => [[c]]
    | w :: r => (c :: w) :: r
theorem splitT_ne : ∀ l : Txt, splitT l ≠ []
  | [] => by simp [splitT]
  | c :: l => by
    rw [splitT]
    split
    · simp
    · split <;> simp
theorem splitT_word (w t : Txt) (h : 32 ∉ w) : splitT (w ++ 32 :: t) = w :: splitT t := by
  induction w with
  | nil => rw [List.nil_append, splitT, if_pos rfl]
  | cons c w ih =>
    have hc : c ≠ 32 := fun e => h (by simp [e])
    have hw : 32 ∉ w := fun e => h (by simp [e])
    rw [List.cons_append, splitT, if_neg hc, ih hw]
theorem splitT_last (w : Txt) (h : 32 ∉ w) : splitT w = [w] := by
  induction w with
  | nil => rfl
  | cons c w ih =>
    have hc : c ≠ 32 := fun e => h (by simp [e])
    have hw : 32 ∉ w := fun e => h (by simp [e])
    rw [splitT, if_neg hc, ih hw]
theorem split_join : ∀ ws : List Txt, ws ≠ [] → (∀ w ∈ ws, 32 ∉ w) → splitT (joinT ws) = ws
  | [], h, _ => absurd rfl h
  | [x], _, h => by rw [joinT]; exact splitT_last x (h x (by simp))
  | x :: y :: l, _, h => by
    rw [joinT, splitT_word _ _ (h x (by simp)), split_join (y :: l) (by simp) (fun w hw => h w (by simp [hw]))]
/-- A digit's byte. -/
def isDig (c : UInt8) : Bool := decide (48 ≤ c.toNat) && decide (c.toNat ≤ 57)
theorem dig_of {i : Nat} (h : i < 10) : (UInt8.ofNat (48 + i)).toNat = 48 + i := by rw [UInt8.toNat_ofNat']; omega
theorem digits_dig (n : Nat) : ∀ c ∈ Lib.decDigits n, isDig c = true := by
  induction n using Nat.strongRecOn with
  | _ n ih =>
    intro c hc
    by_cases h : n < 10
    · rw [Lib.decDigits_one h] at hc
      simp only [List.mem_singleton] at hc
      subst hc
      simp [isDig]
      omega
    · rw [Lib.decDigits, dif_neg h] at hc
      rcases List.mem_append.1 hc with hc | hc
      · exact ih (n / 10) (by omega) c hc
      · simp only [List.mem_singleton] at hc
        subst hc
        have : n % 10 < 10 := by omega
        simp [isDig]
        omega
theorem digits_ne (n : Nat) : Lib.decDigits n ≠ [] := by
  rw [Lib.decDigits]
  split
  · simp
  · simp
/-- The number that digits spell. -/
def valT (l : Txt) : Nat := l.foldl (fun n c => 10 * n + (c.toNat - 48)) 0
theorem valT_snoc (l : Txt) (c : UInt8) : valT (l ++ [c]) = 10 * valT l + (c.toNat - 48) := by simp [valT]
theorem valT_digits (n : Nat) : valT (Lib.decDigits n) = n := by
  induction n using Nat.strongRecOn with
  | _ n ih =>
    by_cases h : n < 10
    · rw [Lib.decDigits_one h]
      show 10 * 0 + ((UInt8.ofNat (48 + n)).toNat - 48) = n
      rw [dig_of h]
      omega
    · have hm : n % 10 < 10 := by omega
      rw [Lib.decDigits, dif_neg h, valT_snoc, ih (n / 10) (by omega), dig_of hm]
      omega
theorem parse_from (l : Txt) : ∀ acc : Nat, (∀ c ∈ l, isDig c = true) → l.foldl (fun n c => 10 * n + (c.toNat - 48)) acc < 9223372036854775808 → Lib.parseUint10 acc l = .ok (l.foldl (fun n c => 10 * n + (c.toNat - 48)) acc) := by
  induction l with
  | nil => intro acc _ _; rfl
  | cons c l ih =>
    intro acc hd hb
    have hc := hd c (by simp)
    simp only [isDig, Bool.and_eq_true, decide_eq_true_eq] at hc
    have hle : ∀ (l : Txt) (a : Nat), a ≤ l.foldl (fun n c => 10 * n + (c.toNat - 48)) a := fun l => by
      induction l with
      | nil => intro a; exact Nat.le_refl _
      | cons c l ih => intro a; rw [List.foldl_cons]; exact Nat.le_trans (by omega) (ih _)
    have h1 := hle l (10 * acc + (c.toNat - 48))
    rw [List.foldl_cons] at hb ⊢
    rw [Lib.parseUint10, if_pos hc, if_neg (by omega), if_neg (by omega), show acc * 10 + (c.toNat - 48) = 10 * acc + (c.toNat - 48) by omega]
    exact ih _ (fun x hx => hd x (by simp [hx])) hb
theorem atoi_digits {n : Nat} (h : n < 9223372036854775808) : Lib.atoiAll (Lib.decDigits n) = .ok n := by
  have hd := digits_dig n
  have hv := valT_digits n
  have hp : Lib.parseMag (Lib.decDigits n) = .ok n := by
    rw [Lib.parseMag, if_neg (digits_ne n), parse_from _ 0 hd (by rw [← valT, hv]; exact h)]
    rw [← valT, hv]
  cases hl : Lib.decDigits n with
  | nil => exact absurd hl (digits_ne n)
  | cons c r =>
    have hc := hd c (by rw [hl]; simp)
    simp only [isDig, Bool.and_eq_true, decide_eq_true_eq] at hc
    rw [Lib.atoiAll_plain c r (by omega) (by omega), ← hl, hp]
    simp [Lib.signless]
    omega

/-- What a word says: the program's look, the document's. -/
def opP (k : Nat) (w : Txt) : Int := if w = [45] then 65535 else match Lib.atoiAll (Lib.trimLeftS w [88, 89]) with
  | .ok v => if k = 1 ∧ w.head? = some 89 then IntKind.i64.wrap (v + 16) else v
  | _ => -1
def numT (w : Txt) : Int := if w.length < 1 ∨ 7 < w.length then -1 else if w.all isDig = false then -1 else if Lib.decDigits (valT w) = w then valT w else -1
def opR (k : Nat) (w : Txt) : Int := if w = [45] then 65535 else if 1 < w.length ∧ w.head? = some 88 then numT w.tail else if 1 < w.length ∧ w.head? = some 89 then (if k = 1 then numT w.tail + 16 else numT w.tail) else numT w
theorem digits_not45 (n : Nat) : Lib.decDigits n ≠ [45] := fun h => by
  have := digits_dig n 45 (by rw [h]; simp)
  simp [isDig] at this
theorem digits_head (n : Nat) : ∃ c r, Lib.decDigits n = c :: r ∧ isDig c = true := by
  cases h : Lib.decDigits n with
  | nil => exact absurd h (digits_ne n)
  | cons c r => exact ⟨c, r, rfl, digits_dig n c (by rw [h]; simp)⟩
theorem dig_not (c : UInt8) (h : isDig c = true) : c ≠ 88 ∧ c ≠ 89 ∧ c ≠ 45 ∧ c ≠ 32 := by
  simp only [isDig, Bool.and_eq_true, decide_eq_true_eq] at h
  refine ⟨?_, ?_, ?_, ?_⟩ <;> (rintro rfl; simp at h)
theorem trim_digits (n : Nat) : Lib.trimLeftS (Lib.decDigits n) [88, 89] = Lib.decDigits n := by
  obtain ⟨c, r, h, hd⟩ := digits_head n
  obtain ⟨h1, h2, _, _⟩ := dig_not c hd
  rw [h, Lib.trimLeftS, List.dropWhile_cons, if_neg]
  simp [h1, h2]
theorem trim_mark (m : UInt8) (hm : m = 88 ∨ m = 89) (n : Nat) : Lib.trimLeftS (m :: Lib.decDigits n) [88, 89] = Lib.decDigits n := by
  have h := trim_digits n
  rw [Lib.trimLeftS] at h ⊢
  rw [List.dropWhile_cons, if_pos (by simp [hm]), h]
theorem opP_txt {k n : Nat} (hn : n ≤ 65535) : opP k (opTxt k n) = n := by
  unfold opTxt
  by_cases h1 : k = 1 ∧ 16 ≤ n
  · rw [if_pos h1, opP, if_neg (by simp), trim_mark 89 (.inr rfl), atoi_digits (by omega)]
    simp only
    rw [if_pos ⟨h1.1, rfl⟩, IntKind.wrap_i64]
    omega
  · rw [if_neg h1]
    by_cases h2 : k = 1 ∨ k = 2
    · rw [if_pos h2, opP, if_neg (by simp), trim_mark 88 (.inl rfl), atoi_digits (by omega)]
      simp only
      rw [if_neg (by simp)]
    · rw [if_neg h2]
      by_cases h9 : k = 9
      · rw [if_pos h9, opP, if_neg (by simp), trim_mark 89 (.inr rfl), atoi_digits (by omega)]
        simp only
        rw [if_neg (by omega)]
      · rw [if_neg h9]
        by_cases h6 : n = 65535
        · rw [if_pos h6, opP, if_pos rfl, h6]; rfl
        · rw [if_neg h6, opP, if_neg (digits_not45 n), trim_digits, atoi_digits (by omega)]
          simp only
          rw [if_neg (by omega)]
theorem digits_len (n : Nat) (h : n ≤ 65535) : 1 ≤ (Lib.decDigits n).length ∧ (Lib.decDigits n).length ≤ 7 := by
  refine ⟨Nat.pos_of_ne_zero (fun h0 => digits_ne n (List.eq_nil_of_length_eq_zero h0)), ?_⟩
  have step : ∀ m j : Nat, (m < 10 → (Lib.decDigits m).length ≤ j + 1) := fun m j hm => by rw [Lib.decDigits_one hm]; simp
  have go : ∀ j m : Nat, m < 10 ^ (j + 1) → (Lib.decDigits m).length ≤ j + 1 := fun j => by
    induction j with
    | zero => intro m hm; exact step m 0 (by simpa using hm)
    | succ j ih =>
      intro m hm
      by_cases h10 : m < 10
      · exact step m _ h10
      · rw [Lib.decDigits, dif_neg h10, List.length_append]
        have := ih (m / 10) (by rw [Nat.pow_succ] at hm; omega)
        simp only [List.length_singleton]
        omega
  exact go 6 n (by omega)
theorem numT_digits {n : Nat} (h : n ≤ 65535) : numT (Lib.decDigits n) = n := by
  have hl := digits_len n h
  have ha : (Lib.decDigits n).all isDig = true := List.all_eq_true.2 (digits_dig n)
  rw [numT, if_neg (by omega), if_neg (by rw [ha]; simp), valT_digits, if_pos rfl]
theorem opR_txt {k n : Nat} (hn : n ≤ 65535) : opR k (opTxt k n) = n := by
  have hl := fun m (hm : m ≤ 65535) => (digits_len m hm).1
  unfold opTxt
  by_cases h1 : k = 1 ∧ 16 ≤ n
  · have := hl (n - 16) (by omega)
    rw [if_pos h1, opR, if_neg (by simp), if_neg (by simp), if_pos ⟨by rw [List.length_cons]; omega, rfl⟩, if_pos h1.1, List.tail_cons, numT_digits (by omega)]
    omega
  · rw [if_neg h1]
    by_cases h2 : k = 1 ∨ k = 2
    · have := hl n hn
      rw [if_pos h2, opR, if_neg (by simp), if_pos ⟨by rw [List.length_cons]; omega, rfl⟩, List.tail_cons, numT_digits hn]
    · rw [if_neg h2]
      by_cases h9 : k = 9
      · have := hl n hn
        rw [if_pos h9, opR, if_neg (by simp), if_neg (by simp), if_pos ⟨by rw [List.length_cons]; omega, rfl⟩, if_neg (by omega), List.tail_cons, numT_digits hn]
      · rw [if_neg h9]
        by_cases h6 : n = 65535
        · rw [if_pos h6, opR, if_pos rfl, h6]; rfl
        · obtain ⟨c, r, h, hd⟩ := digits_head n
          obtain ⟨d1, d2, _, _⟩ := dig_not c hd
          rw [if_neg h6, opR, if_neg (digits_not45 n), if_neg (by rw [h]; simp [d1]), if_neg (by rw [h]; simp [d2]), numT_digits hn]
/-- An instruction of a number and operands. -/
def insW (op : Int) (l : List Int) : LIns := ⟨op, l.getD 0 0, l.getD 1 0, l.getD 2 0, l.getD 3 0⟩
def namedT (w : Txt) : Int := if w = [] then -1 else match (List.range 27).find? fun k : Nat => nameT (k : Int) == w with
  | some k => (k : Int)
  | none => -1
def argsW (f : Nat → Txt → Int) (ks : List Int) (ws : List Txt) : List Int := (List.range ks.length).map fun j => match ws[j + 1]? with
  | some w => f (ks.getD j 0).toNat w
  | none => 0
def cand (f : Nat → Txt → Int) (s : Txt) : LIns := insW (namedT ((splitT s).headD [])) (argsW f (kindsOf (namedT ((splitT s).headD []))) (splitT s))
def parseT (f : Nat → Txt → Int) (s : Txt) : LIns × Int := if s = [] ∨ insTxt (cand f s) ≠ s then (⟨0, 0, 0, 0, 0⟩, 17) else (cand f s, 0)
theorem names_ok : ∀ k : Nat, k < 27 → namedT (nameT (k : Int)) = (k : Int) ∧ (32 : UInt8) ∉ nameT (k : Int) := by decide +kernel
theorem name_op {op : Int} (h : opIn op = true) : namedT (nameT op) = op ∧ (32 : UInt8) ∉ nameT op := by
  simp only [opIn, Bool.and_eq_true, decide_eq_true_eq] at h
  obtain ⟨k, rfl⟩ := Int.eq_ofNat_of_zero_le h.1
  exact names_ok k (by omega)
theorem opTxt_blank (k n : Nat) : (32 : UInt8) ∉ opTxt k n := by
  have hd : ∀ m, (32 : UInt8) ∉ Lib.decDigits m := fun m hm => (dig_not 32 (digits_dig m 32 hm)).2.2.2 rfl
  unfold opTxt
  split
  · simp [hd]
  · split
    · simp [hd]
    · split
      · simp [hd]
      · split
        · simp
        · exact hd n
theorem mayOk_top6 {op : Int} {k : Nat} {n : Int} (h : mayOk op k n = true) : 0 ≤ n ∧ n ≤ 65535 := by
  simp only [mayOk, Bool.or_eq_true, Bool.and_eq_true, decide_eq_true_eq, beq_iff_eq] at h
  have hm : mostOf k ≤ 65535 := by
    unfold mostOf mosts
    rcases k with _ | _ | _ | _ | _ | _ | _ | _ | _ | _ | k <;> simp
  have h0 : 0 ≤ leastOf6 k := by unfold leastOf6; split <;> omega
  omega
theorem insOk_arg6 {i : LIns} (h : insOk i = true) {k : Nat} (hk : k < (kindsOf i.op).length) : 0 ≤ i.arg k ∧ i.arg k ≤ 65535 := by
  have hlen := kinds_few i.op
  simp only [insOk, Bool.and_eq_true, List.all_eq_true, List.mem_range] at h
  have h1 := h.2 k (by omega)
  rw [argOk, List.getElem?_eq_getElem hk] at h1
  exact mayOk_top6 h1
theorem insOk_rest6 {i : LIns} (h : insOk i = true) {k : Nat} (hk : (kindsOf i.op).length ≤ k) (h4 : k < 4) : i.arg k = 0 := by
  simp only [insOk, Bool.and_eq_true, List.all_eq_true, List.mem_range] at h
  have h1 := h.2 k h4
  rw [argOk, List.getElem?_eq_none hk] at h1
  simpa using h1
theorem ins_ext6 {i j : LIns} (h0 : i.op = j.op) (h : ∀ k, k < 4 → i.arg k = j.arg k) : i = j := by
  obtain ⟨o, a, b, c, d⟩ := i
  obtain ⟨o', a', b', c', d'⟩ := j
  have e0 := h 0 (by omega)
  have e1 := h 1 (by omega)
  have e2 := h 2 (by omega)
  have e3 := h 3 (by omega)
  simp only [LIns.arg] at e0 e1 e2 e3 h0
  subst e0 e1 e2 e3 h0
  rfl
theorem insW_arg (op : Int) (l : List Int) {k : Nat} (hk : k < 4) : (insW op l).arg k = l.getD k 0 := by
  match k, hk with
  | 0, _ => rfl
  | 1, _ => rfl
  | 2, _ => rfl
  | 3, _ => rfl
/-- A text that is an instruction's is told to be that one's. -/
theorem cand_txt {f : Nat → Txt → Int} (hf : ∀ {k n : Nat}, n ≤ 65535 → f k (opTxt k n) = n) {i : LIns} (h : insOk i = true) : cand f (insTxt i) = i := by
  have hop : opIn i.op = true := by simp only [insOk, Bool.and_eq_true] at h; exact h.1
  obtain ⟨hn, hb⟩ := name_op hop
  have hs : splitT (insTxt i) = wordsOf i := by
    rw [insTxt, if_pos h]
    refine split_join _ (by simp [wordsOf]) (fun w hw => ?_)
    simp only [wordsOf, List.mem_cons, List.mem_map, List.mem_range] at hw
    rcases hw with rfl | ⟨j, _, rfl⟩
    · exact hb
    · exact opTxt_blank _ _
  have h0 : (splitT (insTxt i)).headD [] = nameT i.op := by rw [hs]; rfl
  rw [cand, h0, hn, hs]
  refine ins_ext6 rfl (fun k hk => ?_)
  rw [insW_arg _ _ hk, argsW, List.getD_eq_getElem?_getD, List.getElem?_map]
  by_cases hlt : k < (kindsOf i.op).length
  · rw [List.getElem?_range hlt]
    have ha := insOk_arg6 h hlt
    have hw : (wordsOf i)[k + 1]? = some (opTxt ((kindsOf i.op).getD k 0).toNat (i.arg k).toNat) := by
      rw [wordsOf, List.getElem?_cons_succ, List.getElem?_map, List.getElem?_range hlt]
      rfl
    simp only [Option.map_some, Option.getD_some, hw]
    rw [hf (by omega)]
    omega
  · rw [List.getElem?_eq_none (by simpa using hlt)]
    simp only [Option.map_none, Option.getD_none]
    exact (insOk_rest6 h (by omega) hk).symm
theorem txt_ok {i : LIns} (h : insTxt i ≠ []) : insOk i = true := by
  by_cases hi : insOk i = true
  · exact hi
  · rw [insTxt, if_neg hi] at h
    exact absurd rfl h
theorem parse_of {f : Nat → Txt → Int} (hf : ∀ {k n : Nat}, n ≤ 65535 → f k (opTxt k n) = n) {i : LIns} (h : insOk i = true) (hne : insTxt i ≠ []) : parseT f (insTxt i) = (i, 0) := by
  rw [parseT, cand_txt hf h, if_neg]
  rintro (h1 | h1)
  · exact hne h1
  · exact h1 rfl
/-- Both tell the same of all texts. -/
theorem parse_same (s : Txt) : parseT opP s = parseT opR s := by
  by_cases hs : s = []
  · rw [parseT, parseT, if_pos (.inl hs), if_pos (.inl hs)]
  by_cases h : ∃ i, insOk i = true ∧ insTxt i = s
  · obtain ⟨i, hi, rfl⟩ := h
    rw [parse_of opP_txt hi hs, parse_of opR_txt hi hs]
  · have hno : ∀ f, insTxt (cand f s) ≠ s := fun f he => h ⟨cand f s, txt_ok (by rw [he]; exact hs), he⟩
    rw [parseT, parseT, if_pos (.inr (hno _)), if_pos (.inr (hno _))]
end Go.Proofs.YtpcihhdalofdiaaGreatDoor
