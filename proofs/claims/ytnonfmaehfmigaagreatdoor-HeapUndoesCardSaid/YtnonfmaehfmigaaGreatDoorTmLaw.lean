/- Terms: their parts, their words, and back: the plain law. -/
import Derived.Test.YtnonfmaehfmigaaGreatDoorTm
import Derived.Test.YtnonfmaehfmigaaGreatDoorName
import Derived.Test.YtnonfmaehfmigaaGreatDoorDig
namespace Go.Proofs.YtnonfmaehfmigaaGreatDoor
open Go.RowKit

mutual
def tSize : Tm → Nat
  | .mk _ _ _ l => 1 + tSizes l
def tSizes : List Tm → Nat
  | [] => 0
  | a :: l => tSize a + tSizes l
end
mutual
def tRight : Tm → Bool
  | .mk k n s l => tRights l && (if k = 0 then decide (0 ≤ n) && decide (n ≤ 999) && decide (s.size = 0) && decide (l.length = 0) else if k = 1 then decide (n = 0) && nameOk s && decide (l.length = 0) else if k = 2 then decide (n = 0) && nameOk s && decide (1 ≤ l.length) && decide (l.length ≤ 8) else if k = 3 then decide (n = 0) && decide (s.size = 0) && decide (l.length = 2) else false)
def tRights : List Tm → Bool
  | [] => true
  | a :: l => tRight a && tRights l
end
theorem tRights_all : ∀ l : List Tm, tRights l = true ↔ ∀ a ∈ l, tRight a = true
  | [] => by simp [tRights]
  | a :: l => by rw [tRights, Bool.and_eq_true, tRights_all l]; simp
theorem tSizes_snoc : ∀ (l : List Tm) (a : Tm), tSizes (l ++ [a]) = tSizes l + tSize a
  | [], a => by simp [tSizes]
  | b :: l, a => by rw [List.cons_append, tSizes, tSizes, tSizes_snoc l a]; omega
theorem tSizes_mem : ∀ {l : List Tm} {a : Tm}, a ∈ l → tSize a ≤ tSizes l
  | b :: l, a, h => by
    rw [tSizes]
    rcases List.mem_cons.1 h with rfl | h
    · omega
    · have := tSizes_mem h; omega
theorem tSize_pos (t : Tm) : 1 ≤ tSize t := by cases t; rw [tSize]; omega
theorem tSizes_len : ∀ l : List Tm, l.length ≤ tSizes l
  | [] => by simp [tSizes]
  | a :: l => by have := tSizes_len l; have := tSize_pos a; rw [tSizes, List.length_cons]; omega
/-! ### The same? -/
mutual
def tSame : Tm → Tm → Bool
  | .mk k n s l, .mk k' n' s' l' => decide (k = k') && decide (n = n') && decide (s = s') && tSames l l'
def tSames : List Tm → List Tm → Bool
  | [], [] => true
  | a :: l, b :: l' => tSame a b && tSames l l'
  | _, _ => false
end
mutual
theorem tSame_iff : ∀ a b : Tm, tSame a b = true ↔ a = b
  | .mk k n s l, .mk k' n' s' l' => by
    rw [tSame]
    simp only [Bool.and_eq_true, decide_eq_true_eq, tSames_iff l l', Tm.mk.injEq]
    constructor <;> (rintro h; simp_all)
theorem tSames_iff : ∀ l m : List Tm, tSames l m = true ↔ l = m
  | [], [] => by simp [tSames]
  | a :: l, b :: m => by rw [tSames, Bool.and_eq_true, tSame_iff a b, tSames_iff l m, List.cons.injEq]
  | [], _ :: _ => by simp [tSames]
  | _ :: _, [] => by simp [tSames]
end
/-- Words with a byte between them. -/
def tJoin (c : UInt8) : List Txt → Txt
  | [] => []
  | [x] => x
  | x :: y :: l => x ++ c :: tJoin c (y :: l)
mutual
def tText : Tm → Txt
  | .mk k n s l => if k = 0 then 88 :: Lib.decDigits n.toNat else if k = 1 then s.data.toList else if k = 3 then 91 :: (tJoin 124 (tTexts l) ++ [93]) else s.data.toList ++ 40 :: (tJoin 44 (tTexts l) ++ [41])
def tTexts : List Tm → List Txt
  | [] => []
  | a :: l => tText a :: tTexts l
end
theorem tTexts_map : ∀ l : List Tm, tTexts l = l.map tText
  | [] => rfl
  | a :: l => by rw [tTexts, tTexts_map l]; rfl
def tMore (l : List Tm) : Txt := l.flatMap fun a => 44 :: tText a
theorem join_more (a : Tm) : ∀ l : List Tm, tJoin 44 (tTexts (a :: l)) = tText a ++ tMore l
  | [] => by simp [tTexts, tJoin, tMore]
  | b :: l => by
    have := join_more b l
    rw [tTexts] at this
    rw [tTexts, tTexts, tJoin, this]
    simp [tMore]

/-! ### A text's term -/
def isSm (c : UInt8) : Bool := decide (97 ≤ c.toNat) && decide (c.toNat ≤ 122)
def isAl (c : UInt8) : Bool := isSm c || isDig c
abbrev Num := Txt → Option (Int × Txt)
/-- The program's numbers; the document's. -/
def numP : Num := fun r => match Lib.atoiAll (r.takeWhile isDig) with
  | .ok v => if 0 ≤ v ∧ Lib.decDigits v.toNat = r.takeWhile isDig then some (v, r.dropWhile isDig) else none
  | _ => none
def numR : Num := fun r => if Lib.decDigits (valT ((r.takeWhile isDig).take 4)) = (r.takeWhile isDig).take 4 then some (valT ((r.takeWhile isDig).take 4), r.drop ((r.takeWhile isDig).take 4).length) else none
def pMore (p : Txt → Option (Tm × Txt)) : Nat → Txt → Option (List Tm × Txt)
  | 0, _ => none
  | f + 1, s => if s.head? = some 44 then (p s.tail).bind fun x => (pMore p f x.2).bind fun y => some (x.1 :: y.1, y.2) else some ([], s)
def pTerm (num : Num) : Nat → Txt → Option (Tm × Txt)
  | 0, _ => none
  | f + 1, s =>
    if s.head? = some 88 then (num s.tail).bind fun x => some (.mk 0 x.1 ⟨#[]⟩ [], x.2)
    else if s.head? = some 91 then (pTerm num f s.tail).bind fun x => if x.2.head? = some 124 then (pTerm num f x.2.tail).bind fun y => if y.2.head? = some 93 then some (.mk 3 0 ⟨#[]⟩ [x.1, y.1], y.2.tail) else none else none
    else if s.takeWhile isAl = [] then none
    else if (s.dropWhile isAl).head? = some 40 then (pTerm num f (s.dropWhile isAl).tail).bind fun x => (pMore (pTerm num f) (x.2.length + 1) x.2).bind fun y => if y.2.head? = some 41 then some (.mk 2 0 (stB (s.takeWhile isAl)) (x.1 :: y.1), y.2.tail) else none
    else some (.mk 1 0 (stB (s.takeWhile isAl)) [], s.dropWhile isAl)
def parseTm (num : Num) (s : Txt) : Option Tm := match pTerm num (s.length + 1) s with
  | some (t, []) => if tRight t then some t else none
  | _ => none

structure NumOk (num : Num) : Prop where
  snd : ∀ {r n rest}, num r = some (n, rest) → 0 ≤ n ∧ r = Lib.decDigits n.toNat ++ rest
  cmp : ∀ {n : Int} {rest : Txt}, 0 ≤ n → n ≤ 999 → (∀ c, rest.head? = some c → isDig c = false) → num (Lib.decDigits n.toNat ++ rest) = some (n, rest)

theorem head_tail {s : Txt} {c : UInt8} (h : s.head? = some c) : s = c :: s.tail := by
  cases s with
  | nil => simp at h
  | cons d s => simp at h; subst h; rfl
theorem take_drop_while (p : UInt8 → Bool) (s : Txt) : s.takeWhile p ++ s.dropWhile p = s := List.takeWhile_append_dropWhile
theorem take_stop {p : UInt8 → Bool} : ∀ {a b : Txt}, (∀ c ∈ a, p c = true) → (∀ c, b.head? = some c → p c = false) → (a ++ b).takeWhile p = a ∧ (a ++ b).dropWhile p = b
  | [], b, _, h => by
    cases b with
    | nil => simp
    | cons c b => have := h c rfl; simp [this]
  | c :: a, b, ha, h => by
    obtain ⟨h1, h2⟩ := take_stop (a := a) (b := b) (fun c hc => ha c (by simp [hc])) h
    have := ha c (by simp)
    simp [this, h1, h2]
theorem pMore_snd {p : Txt → Option (Tm × Txt)} (hp : ∀ s t rest, p s = some (t, rest) → s = tText t ++ rest) : ∀ (f : Nat) (s : Txt) (l : List Tm) (rest : Txt), pMore p f s = some (l, rest) → s = tMore l ++ rest
  | 0, s, l, rest, h => by simp [pMore] at h
  | f + 1, s, l, rest, h => by
    rw [pMore] at h
    split at h
    · rename_i hc
      cases hx : p s.tail with
      | none => rw [hx] at h; simp at h
      | some x =>
        obtain ⟨t, r1⟩ := x
        rw [hx] at h
        simp only [Option.bind_some] at h
        cases hy : pMore p f r1 with
        | none => rw [hy] at h; simp at h
        | some y =>
          obtain ⟨l2, r2⟩ := y
          rw [hy] at h
          simp only [Option.bind_some, Option.some.injEq, Prod.mk.injEq] at h
          obtain ⟨rfl, rfl⟩ := h
          have h1 := hp _ _ _ hx
          have h2 := pMore_snd hp f _ _ _ hy
          rw [head_tail hc, h1, h2]
          simp [tMore]
    · simp only [Option.some.injEq, Prod.mk.injEq] at h
      obtain ⟨rfl, rfl⟩ := h
      simp [tMore]
/-- What is told has just that text. -/
theorem pTerm_snd {num : Num} (hn : NumOk num) : ∀ (f : Nat) (s : Txt) (t : Tm) (rest : Txt), pTerm num f s = some (t, rest) → s = tText t ++ rest
  | 0, s, t, rest, h => by simp [pTerm] at h
  | f + 1, s, t, rest, h => by
    rw [pTerm] at h
    split at h
    · rename_i hc
      cases hx : num s.tail with
      | none => rw [hx] at h; simp at h
      | some x =>
        obtain ⟨n, r⟩ := x
        rw [hx] at h
        simp only [Option.bind_some, Option.some.injEq, Prod.mk.injEq] at h
        obtain ⟨rfl, rfl⟩ := h
        obtain ⟨_, h2⟩ := hn.snd hx
        rw [tText, if_pos rfl, head_tail hc, h2]
        rfl
    · split at h
      · rename_i _ hc
        cases hx : pTerm num f s.tail with
        | none => rw [hx] at h; simp at h
        | some x =>
          obtain ⟨a, r⟩ := x
          rw [hx] at h
          simp only [Option.bind_some] at h
          split at h
          · rename_i hc2
            cases hy : pTerm num f r.tail with
            | none => rw [hy] at h; simp at h
            | some y =>
              obtain ⟨b, r2⟩ := y
              rw [hy] at h
              simp only [Option.bind_some] at h
              split at h
              · rename_i hc3
                simp only [Option.some.injEq, Prod.mk.injEq] at h
                obtain ⟨rfl, rfl⟩ := h
                have h1 := pTerm_snd hn f _ _ _ hx
                have h2 := pTerm_snd hn f _ _ _ hy
                rw [tText, if_neg (by omega), if_neg (by omega), if_pos rfl, head_tail hc, h1, head_tail hc2, h2, head_tail hc3]
                simp [tTexts, tJoin]
              · cases h
          · cases h
      · split at h
        · cases h
        · split at h
          · rename_i _ _ hne hc
            cases hx : pTerm num f (s.dropWhile isAl).tail with
            | none => rw [hx] at h; simp at h
            | some x =>
              obtain ⟨a, r⟩ := x
              rw [hx] at h
              simp only [Option.bind_some] at h
              cases hy : pMore (pTerm num f) (r.length + 1) r with
              | none => rw [hy] at h; simp at h
              | some y =>
                obtain ⟨l, r2⟩ := y
                rw [hy] at h
                simp only [Option.bind_some] at h
                split at h
                · rename_i hc3
                  simp only [Option.some.injEq, Prod.mk.injEq] at h
                  obtain ⟨rfl, rfl⟩ := h
                  have h1 := pTerm_snd hn f _ _ _ hx
                  have h2 := pMore_snd (fun s t rest hs => pTerm_snd hn f s t rest hs) _ _ _ _ hy
                  have h0 := take_drop_while isAl s
                  rw [tText, if_neg (by omega), if_neg (by omega), if_neg (by omega), stB_list, join_more]
                  rw [head_tail hc, h1, h2, head_tail hc3] at h0
                  refine h0.symm.trans ?_
                  simp
                · cases h
          · simp only [Option.some.injEq, Prod.mk.injEq] at h
            obtain ⟨rfl, rfl⟩ := h
            rw [tText, if_neg (by omega), if_pos rfl, stB_list]
            exact (take_drop_while isAl s).symm
/-- What may stand behind a term. -/
def Stop (rest : Txt) : Prop := ∀ c, rest.head? = some c → isAl c = false ∧ c ≠ 40
theorem Stop.nil : Stop [] := fun c h => by simp at h
theorem Stop.one {c : UInt8} (h : isAl c = false ∧ c ≠ 40) (r : Txt) : Stop (c :: r) := fun d hd => by simp at hd; subst hd; exact h
theorem al_small {c : Int} {d : UInt8} (h : c = (d.toNat : Int)) : (isSmall c || isDigit c) = isAl d := by
  subst h
  simp only [isSmall, isDigit, isAl, isSm, isDig]
  congr 1 <;> (congr 1 <;> (apply decide_eq_decide.2; omega))
theorem name_bytes {s : ByteArray} (h : nameOk s = true) : s.data.toList ≠ [] ∧ (∀ c ∈ s.data.toList, isAl c = true) ∧ s.data.toList.head? ≠ some 88 ∧ s.data.toList.head? ≠ some 91 ∧ s.data.toList.length ≤ 32 := by
  simp only [nameOk, Bool.and_eq_true, decide_eq_true_eq, List.all_eq_true] at h
  obtain ⟨⟨⟨h1, h2⟩, h3⟩, h4⟩ := h
  have hsz : s.data.toList.length = s.size := rfl
  have hne : s.data.toList ≠ [] := fun e => by rw [e] at hsz; simp at hsz; omega
  refine ⟨hne, fun c hc => ?_, ?_, ?_, by omega⟩
  · rw [← al_small rfl]
    exact h4 _ (by unfold bytesOf; exact List.mem_map.2 ⟨c, hc, rfl⟩)
  all_goals
    intro he
    have h5 : (bytesOf s).getD 0 0 = ((s.data.toList.head?.getD 0).toNat : Int) := by
      unfold bytesOf
      cases hl : s.data.toList with
      | nil => exact absurd hl hne
      | cons c l => simp
    rw [h5, he] at h3
    simp [isSmall] at h3
theorem pMore_cmp {p : Txt → Option (Tm × Txt)} : ∀ (l : List Tm) (f : Nat) (rest : Txt), (∀ a ∈ l, ∀ rest, Stop rest → p (tText a ++ rest) = some (a, rest)) → l.length < f → rest.head? ≠ some 44 → Stop rest → pMore p f (tMore l ++ rest) = some (l, rest)
  | [], f + 1, rest, _, _, hr, _ => by rw [pMore, if_neg (by simpa [tMore] using hr)]; simp [tMore]
  | a :: l, f + 1, rest, hp, hf, hr, hs => by
    have e : tMore (a :: l) ++ rest = 44 :: (tText a ++ (tMore l ++ rest)) := by simp [tMore]
    have hst : Stop (tMore l ++ rest) := by
      cases l with
      | nil => simpa [tMore] using hs
      | cons b l => exact Stop.one (by decide) _
    rw [e, pMore, List.head?_cons, if_pos rfl, List.tail_cons, hp a (by simp) _ hst]
    simp only [Option.bind_some]
    rw [pMore_cmp l f rest (fun b hb => hp b (by simp [hb])) (by simp at hf; omega) hr hs]
    rfl
theorem tMore_len : ∀ l : List Tm, l.length ≤ (tMore l).length
  | [] => by simp [tMore]
  | a :: l => by have := tMore_len l; simp [tMore] at this ⊢; omega
theorem tMore_mem : ∀ {l : List Tm} {a : Tm}, a ∈ l → (tText a).length ≤ (tMore l).length
  | b :: l, a, h => by
    rcases List.mem_cons.1 h with rfl | h
    · simp [tMore]; omega
    · have := tMore_mem h; simp [tMore] at this ⊢; omega
/-- A right term is told by its text. -/
theorem pTerm_cmp {num : Num} (hn : NumOk num) (t : Tm) : tRight t = true → ∀ (f : Nat) (rest : Txt), (tText t).length < f → Stop rest → pTerm num f (tText t ++ rest) = some (t, rest) := by
  induction t using Tm.ind_ with
  | h k n s l ih =>
    intro ht f rest hf hs
    cases f with
    | zero => omega
    | succ f =>
      rw [tRight, Bool.and_eq_true] at ht
      obtain ⟨hl, ht⟩ := ht
      have hall := (tRights_all l).1 hl
      split at ht
      · rename_i hk
        subst hk
        simp only [Bool.and_eq_true, decide_eq_true_eq] at ht
        obtain ⟨⟨⟨h0, h9⟩, hz⟩, hle⟩ := ht
        obtain rfl := List.length_eq_zero_iff.1 hle
        have hse : s = ⟨#[]⟩ := by cases s with | mk d => simp [ByteArray.size] at hz; simp [hz]
        subst hse
        rw [tText, if_pos rfl, List.cons_append, pTerm, List.head?_cons, if_pos rfl, List.tail_cons, hn.cmp h0 h9 (fun c hc => by have := (hs c hc).1; simp [isAl] at this; exact this.2)]
        rfl
      · split at ht
        · rename_i _ hk
          subst hk
          simp only [Bool.and_eq_true, decide_eq_true_eq] at ht
          obtain ⟨⟨rfl, hnm⟩, hle⟩ := ht
          obtain rfl := List.length_eq_zero_iff.1 hle
          obtain ⟨b1, b2, b3, b4, _⟩ := name_bytes hnm
          have htd := take_stop (p := isAl) (a := s.data.toList) (b := rest) b2 (fun c hc => (hs c hc).1)
          have hh : ∀ c, (s.data.toList ++ rest).head? = some c → s.data.toList.head? = some c := fun c hc => by
            cases hd : s.data.toList with
            | nil => exact absurd hd b1
            | cons x y => rw [hd] at hc; simpa using hc
          rw [tText, if_neg (by omega), if_pos rfl, pTerm, if_neg (fun h => b3 (hh _ h)), if_neg (fun h => b4 (hh _ h)), htd.1, htd.2, if_neg b1, if_neg (fun h => (hs _ h).2 rfl), stB_of]
        · split at ht
          · rename_i _ _ hk
            subst hk
            simp only [Bool.and_eq_true, decide_eq_true_eq] at ht
            obtain ⟨⟨⟨rfl, hnm⟩, hle⟩, hle2⟩ := ht
            obtain ⟨b1, b2, b3, b4, _⟩ := name_bytes hnm
            cases l with
            | nil => simp at hle
            | cons a l =>
              have e : tText (.mk 2 0 s (a :: l)) ++ rest = s.data.toList ++ 40 :: (tText a ++ (tMore l ++ 41 :: rest)) := by
                rw [tText, if_neg (by omega), if_neg (by omega), if_neg (by omega), join_more]
                simp
              have elen : (tText (.mk 2 0 s (a :: l))).length = s.data.toList.length + ((tText a).length + ((tMore l).length + 2)) := by
                rw [tText, if_neg (by omega), if_neg (by omega), if_neg (by omega), join_more]
                simp
                omega
              have htd := take_stop (p := isAl) (a := s.data.toList) (b := 40 :: (tText a ++ (tMore l ++ 41 :: rest))) b2 (fun c hc => by simp at hc; subst hc; decide)
              have hh : ∀ c, (s.data.toList ++ 40 :: (tText a ++ (tMore l ++ 41 :: rest))).head? = some c → s.data.toList.head? = some c := fun c hc => by
                cases hd : s.data.toList with
                | nil => exact absurd hd b1
                | cons x y => rw [hd] at hc; simpa using hc
              have hst : Stop (tMore l ++ 41 :: rest) := by
                cases l with
                | nil => exact Stop.one (by decide) _
                | cons b l => exact Stop.one (by decide) _
              rw [e, pTerm, if_neg (fun h => b3 (hh _ h)), if_neg (fun h => b4 (hh _ h)), htd.1, htd.2, if_neg b1, List.head?_cons, if_pos rfl, List.tail_cons, ih a (by simp) (hall a (by simp)) f _ (by omega) hst]
              simp only [Option.bind_some]
              rw [pMore_cmp l _ (41 :: rest) (fun b hb r hr => ih b (by simp [hb]) (hall b (by simp [hb])) f r (by have := tMore_mem hb; omega) hr) (by have := tMore_len l; simp; omega) (by simp) (Stop.one (by decide) _)]
              simp [stB_of]
          · split at ht
            · rename_i _ _ _ hk
              subst hk
              simp only [Bool.and_eq_true, decide_eq_true_eq] at ht
              obtain ⟨⟨rfl, hz⟩, hle⟩ := ht
              have hse : s = ⟨#[]⟩ := by cases s with | mk d => simp [ByteArray.size] at hz; simp [hz]
              subst hse
              match l, hle, ih, hall, hf with
              | [a, b], _, ih, hall, hf =>
                have e : tText (.mk 3 0 ⟨#[]⟩ [a, b]) ++ rest = 91 :: (tText a ++ 124 :: (tText b ++ 93 :: rest)) := by
                  rw [tText, if_neg (by omega), if_neg (by omega), if_pos rfl]
                  simp [tTexts, tJoin]
                have elen : (tText (.mk 3 0 ⟨#[]⟩ [a, b])).length = (tText a).length + (tText b).length + 3 := by
                  rw [tText, if_neg (by omega), if_neg (by omega), if_pos rfl]
                  simp [tTexts, tJoin]
                  omega
                rw [e, pTerm, List.head?_cons, if_neg (by simp), if_pos rfl, List.tail_cons, ih a (by simp) (hall a (by simp)) f _ (by omega) (Stop.one (by decide) _)]
                simp only [Option.bind_some, List.head?_cons, if_true, List.tail_cons]
                rw [ih b (by simp) (hall b (by simp)) f _ (by omega) (Stop.one (by decide) _)]
                simp
            · cases ht
/-- Of a text the right term is told whose text it is. -/
theorem parse_snd {num : Num} (hn : NumOk num) {s : Txt} {t : Tm} (h : parseTm num s = some t) : tRight t = true ∧ tText t = s := by
  unfold parseTm at h
  split at h
  · rename_i t' hp
    split at h
    · rename_i hr
      cases h
      exact ⟨hr, by simpa using (pTerm_snd hn _ _ _ _ hp).symm⟩
    · cases h
  · cases h
theorem parse_cmp {num : Num} (hn : NumOk num) {t : Tm} (h : tRight t = true) : parseTm num (tText t) = some t := by
  have := pTerm_cmp hn t h ((tText t).length + 1) [] (by omega) Stop.nil
  rw [List.append_nil] at this
  rw [parseTm, this]
  simp [h]
theorem parse_one {num num' : Num} (hn : NumOk num) (hn' : NumOk num') (s : Txt) : parseTm num s = parseTm num' s := by
  cases h : parseTm num s with
  | some t =>
    obtain ⟨h1, h2⟩ := parse_snd hn h
    rw [← h2, parse_cmp hn' h1]
  | none =>
    cases h' : parseTm num' s with
    | none => rfl
    | some t =>
      obtain ⟨h1, h2⟩ := parse_snd hn' h'
      rw [← h2, parse_cmp hn h1] at h
      cases h
theorem text_inj {a b : Tm} (ha : tRight a = true) (hb : tRight b = true) (hn : NumOk numR) (h : tText a = tText b) : a = b := by
  have h1 := parse_cmp hn ha
  rw [h, parse_cmp hn hb] at h1
  exact (Option.some.inj h1).symm

theorem take_dig (a : Txt) : ∀ c ∈ a.takeWhile isDig, isDig c = true := by
  intro c hc
  induction a with
  | nil => simp at hc
  | cons x a ih =>
    rw [List.takeWhile_cons] at hc
    split at hc
    · rcases List.mem_cons.1 hc with rfl | hc
      · assumption
      · exact ih hc
    · simp at hc
theorem numP_ok : NumOk numP := by
  refine ⟨fun {r n rest} h => ?_, fun {n rest} h0 h9 hr => ?_⟩
  · unfold numP at h
    split at h
    · split at h
      · rename_i v _ hv
        simp only [Option.some.injEq, Prod.mk.injEq] at h
        obtain ⟨rfl, rfl⟩ := h
        rw [hv.2]
        exact ⟨hv.1, (take_drop_while isDig r).symm⟩
      · cases h
    · cases h
  · obtain ⟨k, rfl⟩ := Int.eq_ofNat_of_zero_le h0
    have ht := take_stop (p := isDig) (a := Lib.decDigits (k : Int).toNat) (b := rest) (digits_dig _) hr
    unfold numP
    rw [ht.1, ht.2, Int.toNat_natCast, atoi_digits (by omega)]
    simp
theorem numR_ok : NumOk numR := by
  refine ⟨fun {r n rest} h => ?_, fun {n rest} h0 h9 hr => ?_⟩
  · unfold numR at h
    split at h
    · rename_i hv
      simp only [Option.some.injEq, Prod.mk.injEq] at h
      obtain ⟨rfl, rfl⟩ := h
      rw [Int.toNat_natCast, hv]
      refine ⟨by omega, ?_⟩
      have hpre : (r.takeWhile isDig).take 4 = r.take ((r.takeWhile isDig).take 4).length := by
        have h1 : (r.takeWhile isDig).take 4 <+: r := (List.take_prefix 4 _).trans (List.takeWhile_prefix isDig)
        exact List.prefix_iff_eq_take.1 h1
      conv => lhs; rw [← List.take_append_drop ((r.takeWhile isDig).take 4).length r]
      rw [← hpre]
    · cases h
  · obtain ⟨k, rfl⟩ := Int.eq_ofNat_of_zero_le h0
    have ht := take_stop (p := isDig) (a := Lib.decDigits (k : Int).toNat) (b := rest) (digits_dig _) hr
    have hl : (Lib.decDigits (k : Int).toNat).length ≤ 4 := by have := digits_len4 (k : Int).toNat (by omega); omega
    unfold numR
    rw [ht.1, List.take_of_length_le hl, Int.toNat_natCast, valT_digits, if_pos rfl, List.drop_left]
theorem tText_few (t : Tm) : tRight t = true → (tText t).length ≤ 44 * tSize t := by
  induction t using Tm.ind_ with
  | h k n s l ih =>
    intro ht
    rw [tRight, Bool.and_eq_true] at ht
    obtain ⟨hl, ht⟩ := ht
    have hall := (tRights_all l).1 hl
    have hj : ∀ (c : UInt8) (m : List Tm), (∀ a ∈ m, (tText a).length ≤ 44 * tSize a) → (tJoin c (tTexts m)).length ≤ 44 * tSizes m + m.length := fun c m => by
      induction m with
      | nil => intro _; simp [tTexts, tJoin]
      | cons a m ihm =>
        intro hm
        have h1 := hm a (by simp)
        have h2 := ihm (fun b hb => hm b (by simp [hb]))
        rw [tTexts]
        cases m with
        | nil => rw [tTexts, tJoin, tSizes, tSizes]; simp; omega
        | cons b m =>
          rw [tTexts] at h2 ⊢
          rw [tJoin, tSizes]
          simp only [List.length_append, List.length_cons] at h2 ⊢
          omega
    have h3 := fun c => hj c l (fun a ha => ih a ha (hall a ha))
    rw [tText, tSize]
    split at ht
    · rename_i hk
      simp only [Bool.and_eq_true, decide_eq_true_eq] at ht
      obtain ⟨⟨⟨h0, h9⟩, _⟩, _⟩ := ht
      have := digits_len4 n.toNat (by omega)
      rw [if_pos hk, List.length_cons]
      omega
    · rename_i hk0
      rw [if_neg hk0]
      split at ht
      · rename_i hk
        simp only [Bool.and_eq_true, decide_eq_true_eq] at ht
        have := (name_bytes ht.1.2).2.2.2.2
        rw [if_pos hk]
        omega
      · rename_i hk1
        rw [if_neg hk1]
        split at ht
        · rename_i hk
          simp only [Bool.and_eq_true, decide_eq_true_eq] at ht
          have h5 := (name_bytes ht.1.1.2).2.2.2.2
          have h6 := h3 44
          rw [if_neg (by omega)]
          simp only [List.length_append, List.length_cons, List.length_nil]
          omega
        · split at ht
          · rename_i hk
            simp only [Bool.and_eq_true, decide_eq_true_eq] at ht
            have h6 := h3 124
            rw [if_pos hk]
            simp only [List.length_append, List.length_cons, List.length_nil]
            omega
          · cases ht
end Go.Proofs.YtnonfmaehfmigaaGreatDoor
