/- A line comes: the document's. -/
import Derived.Test.YtpcihhdalofdiaaGreatDoorJQ09
import Derived.Test.YtpcihhdalofdiaaGreatDoorJQ10
import Derived.Test.YtpcihhdalofdiaaGreatDoorJQ11
import Derived.Test.YtpcihhdalofdiaaGreatDoorJQ12
import Derived.Test.YtpcihhdalofdiaaGreatDoorJQ08
namespace Go.Proofs.YtpcihhdalofdiaaGreatDoor
open Go.RowKit Go.Maps

theorem line_sole (S : AS) (n : Nat) : lineP S [64] n = (S, 17) := by
  unfold lineP
  rw [if_neg (by decide), if_pos (by decide)]
  unfold markP
  rw [if_pos (by decide)]
theorem instr_sole (S : AS) (n : Nat) : instrP S (splitT [64]) n = (S, 17) := instr_bad (w0 := [64]) (op := -1) (by decide) (by decide) (.inl (by decide))
theorem lineR_instr {w0 w : World} {ab : Nat} {L : List Nat} {S : AS} (hA : Rs w0 w ab L (fun _ => 0) S) (hfew : Few S) (s : ByteArray) (hl : s.size ≤ 4294967000) (line : Nat) (h1 : ¬ ((splitT s.data.toList).length = 2 ∧ (splitT s.data.toList).headD [] = predW)) (h2 : ¬ ((splitT s.data.toList).length = 1 ∧ 1 < s.size ∧ s.data.toList.head? = some 64)) :
    Calls Tryz.prog 21 #[.pointer (some ⟨ab, 0, none⟩), .string s, .int .i64 line] w (LnR w0 w ab L (instrP S (splitT s.data.toList) line)) := by
  rcases lead_any h1 h2 with h | h | h | h
  · exact lineR_instr0 hA hfew s hl line h
  · exact lineR_instr1 hA hfew s hl line h
  · exact lineR_instr2 hA hfew s hl line h
  · exact lineR_instr3 hA hfew s hl line h
theorem lineR_any {w0 w : World} {ab : Nat} {L : List Nat} {S : AS} (hA : Rs w0 w ab L (fun _ => 0) S) (hfew : Few S) (s : ByteArray) (hl : s.size ≤ 4294967000) (line : Nat) :
    Calls Tryz.prog 21 #[.pointer (some ⟨ab, 0, none⟩), .string s, .int .i64 line] w (LnR w0 w ab L (lineP S s.data.toList line)) := by
  by_cases h1 : (splitT s.data.toList).length = 2 ∧ (splitT s.data.toList).headD [] = predW
  · exact lineR_begin hA hfew s hl line h1.1 h1.2
  · by_cases h2 : (splitT s.data.toList).length = 1 ∧ 1 < s.size ∧ s.data.toList.head? = some 64
    · exact lineR_mark hA hfew s hl line h2.1 h2.2.2 h2.2.1
    · have h3 := lineR_instr hA hfew s hl line h1 h2
      have e : lineP S s.data.toList line = instrP S (splitT s.data.toList) line := by
        by_cases h4 : (splitT s.data.toList).length = 1 ∧ s.data.toList.head? = some 64
        · have h5 : s.data.toList = [64] := by
            have hz : s.data.toList.length = s.size := rfl
            cases hd : s.data.toList with
            | nil => rw [hd] at h4; cases h4.2
            | cons a r =>
              rw [hd] at h4 hz
              rw [hd] at h2
              simp only [List.head?_cons, Option.some.injEq] at h4
              cases r with
              | nil => rw [h4.2]
              | cons b r =>
                rw [List.length_cons, List.length_cons] at hz
                exact absurd ⟨h4.1, by omega, by simp [h4.2]⟩ h2
          rw [h5, line_sole, instr_sole]
        · unfold lineP
          rw [if_neg h1, if_neg h4]
      rw [e]
      exact h3
end Go.Proofs.YtpcihhdalofdiaaGreatDoor

/- Lines become an object: the program's Program. Printed by gen_asprog.py. -/
namespace Go.Proofs.YtpcihhdalofdiaaGreatDoor
open Go.RowKit Go.Maps
attribute [local irreducible] numT kindsOf nameOf checkE fitsP operandP plainP labelP slashP namedT

/-- What is known of the lines so far. -/
structure Good (S : AS) (k : Nat) : Prop where
  inv : InvB S
  uses : UsesI S
  lt : ∀ b ∈ S.begins, b.1 < S.o.preds.length
  few : S.begins.length ≤ k
  ufew : S.uses.length ≤ 4 * S.o.code.length
  room : fullP S.o = false
theorem Good.start : Good AS0 0 := ⟨fun k p hk => by simp [AS0] at hk, UsesI.start, fun _ hb => absurd hb (List.not_mem_nil), Nat.le_refl _, Nat.zero_le _, rfl⟩
theorem full_few {o : LObj} (h : fullP o = false) : o.atoms.length ≤ 256 ∧ o.funs.length ≤ 256 ∧ o.preds.length ≤ 64 ∧ o.code.length ≤ 1024 := by
  unfold fullP at h
  simp only [Bool.or_eq_false_iff, decide_eq_false_iff_not] at h
  omega
theorem Good.toFew {S : AS} {k : Nat} (h : Good S k) (hk : k ≤ 100000) : Few S := by
  obtain ⟨h1, h2, h3, h4⟩ := full_few h.room
  have h5 := h.ufew
  have h6 := h.few
  exact ⟨by omega, by omega, by omega, by omega, by omega, by omega⟩
theorem begin_inv {S : AS} (h : InvB S) (f : LFun) (n : Nat) (e : Int) : InvB { S with o := { (predP S.o f).1 with preds := (predP S.o f).1.preds.modify (predP S.o f).2 fun p => { p with entry := e } }, begins := S.begins ++ [((predP S.o f).2, n)] } := by
  have hp := h.pred f
  intro k p hk he
  simp only at hk
  rw [List.getElem?_modify] at hk
  by_cases hkk : (predP S.o f).2 = k
  · rw [List.any_append]
    have : isBeg k ((predP S.o f).2, n) = true := by unfold isBeg; rw [hkk]; simp
    simp [this]
  · rw [List.any_append]
    cases hq : (predP S.o f).1.preds[k]? with
    | none => rw [hq] at hk; simp [hkk] at hk
    | some p' =>
      rw [hq] at hk
      simp [hkk] at hk
      subst hk
      rw [hp k p' hq he]
      rfl
theorem operand_inv {S : AS} {o : LObj} (h : InvB { S with o := o }) (k : Nat) (w : Txt) : InvB { S with o := (operandP o k w).1 } := by
  have h1 : ∀ f, InvB { S with o := (predP o f).1 } := fun f => InvB.pred (S := { S with o := o }) h f
  have e : (operandP o k w).1.preds = o.preds ∨ ∃ f, (operandP o k w).1 = (predP o f).1 := by
    unfold operandP
    split
    · exact .inl rfl
    · split
      · split <;> exact .inl rfl
      · split
        · split
          · exact .inr ⟨_, rfl⟩
          · exact .inl rfl
        · split <;> exact .inl rfl
  rcases e with e | ⟨f, e⟩
  · intro i p hi he
    simp only at hi
    rw [e] at hi
    exact h i p hi he
  · rw [e]
    exact h1 f
theorem Good.line {S : AS} {k : Nat} (h : Good S k) (s : Txt) (hr : fullP (lineP S s k).1.o = false) : Good (lineP S s k).1 (k + 1) := by
  have hu := h.uses.line s k
  refine ⟨?_, hu, ?_, ?_, ?_, hr⟩
  · clear hu hr
    unfold lineP
    split
    · unfold beginP
      split
      · exact h.inv
      · simp only
        split
        · exact h.inv
        · exact begin_inv h.inv _ _ _
    · split
      · unfold markP
        split
        · exact h.inv
        · split
          · exact h.inv
          · exact h.inv
      · unfold instrP
        simp only
        split
        · exact h.inv
        · rename_i hc
          generalize namedT ((splitT s).headD []) = op
          have key : ∀ (l : List (Nat × Txt)) (o : LObj) (j : Nat), InvB { S with o := o } → InvB { S with o := (operandsP S.o.code.length k o j l).1 } := by
            intro l
            induction l with
            | nil => intro o j ho; exact ho
            | cons x l ih =>
              intro o j ho
              obtain ⟨kk, w⟩ := x
              rw [operandsP]
              refine ih _ _ ?_
              exact operand_inv ho kk w
          exact key _ S.o 0 h.inv
  · clear hu hr
    unfold lineP
    split
    · unfold beginP
      split
      · exact h.lt
      · rename_i f _
        simp only
        split
        · exact h.lt
        · intro b hb
          simp only [List.length_modify]
          rcases List.mem_append.1 hb with hb | hb
          · have h1 := h.lt b hb
            have h2 := (predP_le S.o f).preds
            omega
          · obtain rfl := List.mem_singleton.1 hb
            exact predP_lt S.o f
    · split
      · unfold markP
        split
        · exact h.lt
        · split
          · exact h.lt
          · exact h.lt
      · unfold instrP
        simp only
        split
        · exact h.lt
        · intro b hb
          have h1 := h.lt b hb
          have h2 := (operandsP_le (n := S.o.code.length) (at_ := k) (((kindsOf (namedT ((splitT s).headD []))).map Int.toNat).zip (splitT s).tail) S.o 0).preds
          simp only
          omega
  · clear hu hr
    have hf := h.few
    unfold lineP
    split
    · unfold beginP
      split
      · exact Nat.le_succ_of_le hf
      · simp only
        split
        · exact Nat.le_succ_of_le hf
        · simp only [List.length_append, List.length_singleton]
          omega
    · split
      · unfold markP
        split
        · exact Nat.le_succ_of_le hf
        · split
          · exact Nat.le_succ_of_le hf
          · exact Nat.le_succ_of_le hf
      · unfold instrP
        simp only
        split
        · exact Nat.le_succ_of_le hf
        · exact Nat.le_succ_of_le hf
  · clear hu hr
    have hf := h.ufew
    unfold lineP
    split
    · unfold beginP
      split
      · exact hf
      · simp only
        split
        · exact hf
        · simp only [predP_code]
          exact hf
    · split
      · unfold markP
        split
        · exact hf
        · split
          · exact hf
          · exact hf
      · unfold instrP
        simp only
        split
        · exact hf
        · generalize namedT ((splitT s).headD []) = op
          have h1 := operandsP_uses S.o.code.length k (((kindsOf op).map Int.toNat).zip (splitT s).tail) S.o 0
          have h2 := operandsP_code (n := S.o.code.length) (at_ := k) (((kindsOf op).map Int.toNat).zip (splitT s).tail) S.o 0
          have hk4 := kinds_few op
          have hz : (((kindsOf op).map Int.toNat).zip (splitT s).tail).length ≤ 4 := by
            rw [List.length_zip, List.length_map]
            omega
          simp only [List.length_append, h2, List.length_singleton]
          omega
theorem AsM.ob2 {w0 w w2 : World} {ab vb : Nat} {AA FA PA CA UA BA : Option Addr} {ca cf cp cc cu cb nl : Nat} {S : AS} {M : List Nat} (h : AsM w0 w ab vb AA FA PA CA UA BA ca cf cp cc cu cb nl S) (k : Keeps w w2 M) (hM : ∀ b ∈ M, b < w0.heap.size) : ObIs w2 S.o AA FA PA CA ca cf cp cc := by
  have hn : ∀ {n size c : Nat} {e : TypeId} {A : Option Addr} {xs : List Value}, w.ownsRow w0.heap.size e size (.slice A n c) n xs → ∀ b ∈ M, b ∉ ownL (.slice A 0 0) := fun ho b hb hm => by
    have h1 := (own_ltA ho b hm).1
    have h2 := hM b hb
    omega
  exact ⟨Rd.of_own (own_keepA h.atoms k (hn h.atoms)), Rd.of_own (own_keepA h.funs k (hn h.funs)), Rd.of_own (own_keepA h.preds k (hn h.preds)), Rd.of_own (own_keepA h.code k (hn h.code)), fun e => by subst e; exact own_nilA h.atoms, fun e => by subst e; exact own_nilA h.funs, fun e => by subst e; exact own_nilA h.preds, fun e => by subst e; exact own_nilA h.code⟩
theorem lines_cons {S : AS} {n : Nat} {s : Txt} {l : List Txt} : linesP S n (s :: l) = if (lineP S s n).2 ≠ 0 then (S, (lineP S s n).2, (n : Int)) else if fullP (lineP S s n).1.o then (S, 2, (n : Int)) else linesP (lineP S s n).1 (n + 1) l := rfl
theorem prog_bad {l : List Txt} {S : AS} {e m : Int} (h : linesP AS0 0 l = (S, e, m)) (he : e ≠ 0) : programP l = (⟨[], [], [], []⟩, e, m) := by
  unfold programP
  rw [h]
  exact if_pos he
theorem prog_settle {l : List Txt} {S : AS} (h : linesP AS0 0 l = (S, 0, -1)) : programP l = if (least (0, -1) (wrongs S)).1 ≠ 0 then (⟨[], [], [], []⟩, (least (0, -1) (wrongs S)).1, (least (0, -1) (wrongs S)).2) else (settleP S, 0, -1) := by
  unfold programP
  rw [h]
  simp only
  rw [if_neg (by decide)]
/-- What Program hands back. -/
def PrDone (w : World) (r : LObj × Int × Int) (e : Ending) (w' : World) : Prop :=
  ∃ Aa Af Ap Ac ca cf cp cc, e = .returned (.tuple #[.agg #[.slice Aa r.1.atoms.length ca, .slice Af r.1.funs.length cf, .slice Ap r.1.preds.length cp, .slice Ac r.1.code.length cc], .int .i64 r.2.1, .int .i64 r.2.2]) ∧ ObIs w' r.1 Aa Af Ap Ac ca cf cp cc ∧ Keeps w w' []
set_option maxRecDepth 100000 in
set_option maxHeartbeats 6400000 in
theorem programA_any (ls : List ByteArray) (A : Option Addr) (n c : Nat) (w : World) (h : St w) (hl : ls.length = n) (hn : n ≤ 100000) (hA : Rd w A (ls.flatMap strE)) (hsz : ∀ s ∈ ls, s.size ≤ 4294967000) :
    Calls Tryz.prog 8 #[.slice A n c] w (PrDone w (programP (ls.map (·.data.toList)))) := by
  unfold PrDone
  have k0 : Keeps w (w.alloc (.cells #[.slice none 0 0, .slice none 0 0, .slice none 0 0, .slice none 0 0] 31)) [] := (Keeps.refl w []).alloc _
  have hBox : Blk (w.alloc (.cells #[.slice none 0 0, .slice none 0 0, .slice none 0 0, .slice none 0 0] 31)) w.heap.size 31 #[.slice none 0 0, .slice none 0 0, .slice none 0 0, .slice none 0 0] := Blk.new _ _ _
  obtain ⟨w0, hw0⟩ : ∃ w0, w0 = (w.alloc (.cells #[.slice none 0 0, .slice none 0 0, .slice none 0 0, .slice none 0 0] 31)) := ⟨_, rfl⟩
  have hs0 : w0.heap.size = w.heap.size + 1 := by rw [hw0, World.size_alloc]
  have HAs : Hid (As w0 (((w.alloc (.cells #[.slice none 0 0, .slice none 0 0, .slice none 0 0, .slice none 0 0] 31)).alloc (.map #[] 0)).alloc (.cells #[.slice none 0 0, .slice none 0 0, .slice none 0 0, .slice none 0 0, .map (some (w.heap.size + 1)), .slice none 0 0, .slice none 0 0] 58)) (w.heap.size + 2) [w.heap.size + 2, w.heap.size + 1] 0 AS0) := by
    have e1 : (w.alloc (.cells #[.slice none 0 0, .slice none 0 0, .slice none 0 0, .slice none 0 0] 31)).heap.size = w.heap.size + 1 := by rw [World.size_alloc]
    have e2 : ((w.alloc (.cells #[.slice none 0 0, .slice none 0 0, .slice none 0 0, .slice none 0 0] 31)).alloc (.map #[] 0)).heap.size = w.heap.size + 2 := by rw [World.size_alloc, e1]
    have b2 : Blk (((w.alloc (.cells #[.slice none 0 0, .slice none 0 0, .slice none 0 0, .slice none 0 0] 31)).alloc (.map #[] 0)).alloc (.cells #[.slice none 0 0, .slice none 0 0, .slice none 0 0, .slice none 0 0, .map (some (w.heap.size + 1)), .slice none 0 0, .slice none 0 0] 58)) (w.heap.size + 2) 58 #[.slice none 0 0, .slice none 0 0, .slice none 0 0, .slice none 0 0, .map (some (w.heap.size + 1)), .slice none 0 0, .slice none 0 0] := Blk.newAt _ _ e2.symm
    have m1 := LM.made (w.alloc (.cells #[.slice none 0 0, .slice none 0 0, .slice none 0 0, .slice none 0 0] 31))
    rw [e1] at m1
    have m2 := m1.kept (w' := (((w.alloc (.cells #[.slice none 0 0, .slice none 0 0, .slice none 0 0, .slice none 0 0] 31)).alloc (.map #[] 0)).alloc (.cells #[.slice none 0 0, .slice none 0 0, .slice none 0 0, .slice none 0 0, .map (some (w.heap.size + 1)), .slice none 0 0, .slice none 0 0] 58))) ((Keeps.refl _ []).alloc _) (by simp)
    have oz : ∀ (e : TypeId) (sz : Nat), World.ownsRow (((w.alloc (.cells #[.slice none 0 0, .slice none 0 0, .slice none 0 0, .slice none 0 0] 31)).alloc (.map #[] 0)).alloc (.cells #[.slice none 0 0, .slice none 0 0, .slice none 0 0, .slice none 0 0, .map (some (w.heap.size + 1)), .slice none 0 0, .slice none 0 0] 58)) w0.heap.size e sz (.slice none 0 0) 0 [] := fun e sz => ⟨by simp, .inl ⟨rfl, rfl⟩⟩
    refine ⟨w.heap.size + 1, none, none, none, none, none, none, 0, 0, 0, 0, 0, 0, ⟨b2, oz _ _, oz _ _, oz _ _, oz _ _, oz _ _, oz _ _, m2, ⟨by omega, by omega⟩, ?_, ?_⟩, ?_, ?_⟩
    · rw [hw0]
      exact (((Keeps.refl (w.alloc (.cells #[.slice none 0 0, .slice none 0 0, .slice none 0 0, .slice none 0 0] 31)) []).alloc _).alloc _).toBelow
    · rw [hw0]
      exact h.keep k0
    · intro b hb
      simpa [asL, ownL, Value.ownBlock] using hb
    · intro b hb
      simp only [List.mem_cons, List.not_mem_nil, or_false] at hb
      rw [World.size_alloc, e2]
      rcases hb with rfl | rfl <;> omega
  have HBox : Hid (Blk w0 w.heap.size 31 #[.slice none 0 0, .slice none 0 0, .slice none 0 0, .slice none 0 0]) := Lib.hid (by rw [hw0]; exact hBox)
  have HK0 : Hid (Keeps w w0 []) := Lib.hid (by rw [hw0]; exact k0)
  have HS0 := Lib.hid hs0
  have HL := Lib.hid hl
  have HA := Lib.hid hA
  have HSz := Lib.hid hsz
  have hmm := @run_makeMap Tryz.prog
  obtain ⟨T, hT⟩ : ∃ T, ls.map (·.data.toList) = T := ⟨_, rfl⟩
  have HT := Lib.hid hT
  have HTl : Hid (T.length = n) := Lib.hid (by rw [← hT, List.length_map, hl])
  rw [hT]
  clear k0 hBox hs0 hw0 h hl hA hsz hT
  go_enter Tryz.func8, Tryz.ntmps8
  go_upto_region 2 with fail
  generalize (((w.alloc (.cells #[.slice none 0 0, .slice none 0 0, .slice none 0 0, .slice none 0 0] 31)).alloc (.map #[] 0)).alloc (.cells #[.slice none 0 0, .slice none 0 0, .slice none 0 0, .slice none 0 0, .map (some (w.heap.size + 1)), .slice none 0 0, .slice none 0 0] 58)) = w2 at *
  clear hmm
  go_wp2_with fail
  go_loopw [6, 7, 8, 16] (fun v6 v7 v8 i wr => ∃ k : Nat, k ≤ n ∧ i = .int .i64 k ∧ ∃ L S, As w0 wr (w.heap.size + 2) L k S ∧ Good S k ∧ Hid (linesP S k (T.drop k) = linesP AS0 0 T)) (fun _ _ _ i _ => n - (intOf i).toNat)
  case atStart => exact ⟨0, Nat.zero_le _, rfl, _, _, HAs.out, Good.start, rfl⟩
  case round =>
    clear HAs w2
    obtain ⟨k, hk, rfl, L, S, hAs, hG, HLs⟩ := hrel
    have HAs := Lib.hid hAs
    have HG := Lib.hid hG
    have HBe := Lib.hid hAs.bel
    have HBoxR : Hid (Blk wr w.heap.size 31 #[.slice none 0 0, .slice none 0 0, .slice none 0 0, .slice none 0 0]) := Lib.hid ((HBe.out.block _ (by rw [HS0.out]; omega)).trans HBox.out)
    have HKr : Hid (Keeps w wr []) := Lib.hid (HK0.out.trans (Keeps.nil_of HBe.out))
    clear hAs hG
    by_cases hlk : k < n
    · obtain ⟨s, hs⟩ := at_of HL.out hlk
      obtain ⟨b, off, rfl, hb, hc⟩ := (HA.out.keep HKr.out).field strE_len hs (by omega)
      have p0 : wr.cell? ⟨b, off + k, none⟩ = some (.string s) := by have := hc 0 _ rfl; simpa using this
      have HTd : Hid (T.drop k = s.data.toList :: T.drop (k + 1)) := Lib.hid (by
        rw [List.drop_eq_getElem_cons (by rw [HTl.out]; exact hlk)]
        congr 1
        have h1 : T[k]? = some s.data.toList := by rw [← HT.out, List.getElem?_map, hs]; rfl
        exact (List.getElem?_eq_some_iff.1 h1).2)
      have HLn := Lib.hid (lineA_any HAs.out HG.out.inv (HG.out.toFew (by omega)) (by omega) s (HSz.out s (List.mem_of_getElem? hs)) k)
      obtain ⟨r, hr⟩ : ∃ r, lineP S s.data.toList k = r := ⟨_, rfl⟩
      rw [hr] at HLn
      have HLs2 : Hid ((if r.2 ≠ 0 then (S, r.2, (k : Int)) else if fullP r.1.o then (S, 2, (k : Int)) else linesP r.1 (k + 1) (T.drop (k + 1))) = linesP AS0 0 T) := Lib.hid (by
        have h1 := HLs.out
        rw [HTd.out, lines_cons, hr] at h1
        exact h1)
      have HGl : Hid (fullP r.1.o = false → Good r.1 (k + 1)) := fun h2 => by
        have := HG.out.line s.data.toList (k := k)
        rw [hr] at this
        exact this h2
      have b1 : (k : Int) < (n : Int) := by omega
      have b0 : (0 : Int) ≤ (k : Int) := Int.natCast_nonneg _
      clear hs hb hc hr HLs
      obtain ⟨S1, er⟩ := r
      dsimp only at HLs2 HGl
      go_wp2_with fail
      refine HLn.out.mono ?_
      rintro e w3 ⟨rfl, L3, S3, hA3, hs3, hS3⟩
      have HA3 := Lib.hid hA3
      have HS3 := Lib.hid hS3
      have HBe3 := Lib.hid hA3.bel
      have HBox3 : Hid (Blk w3 w.heap.size 31 #[.slice none 0 0, .slice none 0 0, .slice none 0 0, .slice none 0 0]) := Lib.hid ((HBe3.out.block _ (by rw [HS0.out]; omega)).trans HBox.out)
      have HKr3 : Hid (Keeps w w3 []) := Lib.hid (HK0.out.trans (Keeps.nil_of HBe3.out))
      clear hA3 hs3 hS3 HLn HBoxR HKr HBe HAs
      dsimp only
      by_cases he : er = 0
      case neg =>
        have d0 : (er == 0) = false := by simpa using he
        have d1 : (er != 0) = true := by simpa using he
        have HV := Lib.hid (prog_bad (HLs2.out.symm.trans (if_pos he)) he)
        have HBoxW := Lib.hid HBox3.out
        clear he
        have HBf : Hid (Blk ((((w3.setCell ⟨w.heap.size, 0, none⟩ (.slice none 0 0)).setCell ⟨w.heap.size, 1, none⟩ (.slice none 0 0)).setCell ⟨w.heap.size, 2, none⟩ (.slice none 0 0)).setCell ⟨w.heap.size, 3, none⟩ (.slice none 0 0)) w.heap.size 31 #[.slice none 0 0, .slice none 0 0, .slice none 0 0, .slice none 0 0]) := Lib.hid (((((HBoxW.out.set_ 0 (.slice none 0 0)).set_ 1 (.slice none 0 0)).set_ 2 (.slice none 0 0)).set_ 3 (.slice none 0 0)))
        have HKf : Hid (Keeps w ((((w3.setCell ⟨w.heap.size, 0, none⟩ (.slice none 0 0)).setCell ⟨w.heap.size, 1, none⟩ (.slice none 0 0)).setCell ⟨w.heap.size, 2, none⟩ (.slice none 0 0)).setCell ⟨w.heap.size, 3, none⟩ (.slice none 0 0)) []) := Lib.hid ((((HKr3.out.setCell (p := ⟨w.heap.size, 0, none⟩) (.inr (Nat.le_refl _)) _).setCell (p := ⟨w.heap.size, 1, none⟩) (.inr (Nat.le_refl _)) _).setCell (p := ⟨w.heap.size, 2, none⟩) (.inr (Nat.le_refl _)) _).setCell (p := ⟨w.heap.size, 3, none⟩) (.inr (Nat.le_refl _)) _)
        have f0 := HBoxW.out.frozen 0
        have v0 := HBoxW.out.cell 0
        have f1 := HBoxW.out.frozen 1
        have v1 := HBoxW.out.cell 1
        have f2 := HBoxW.out.frozen 2
        have v2 := HBoxW.out.cell 2
        have f3 := HBoxW.out.frozen 3
        have v3 := HBoxW.out.cell 3
        go_wp2_with fail
        generalize ((((w3.setCell ⟨w.heap.size, 0, none⟩ (.slice none 0 0)).setCell ⟨w.heap.size, 1, none⟩ (.slice none 0 0)).setCell ⟨w.heap.size, 2, none⟩ (.slice none 0 0)).setCell ⟨w.heap.size, 3, none⟩ (.slice none 0 0)) = wF at *
        have y0 := HBf.out.cell 0
        have y1 := HBf.out.cell 1
        have y2 := HBf.out.cell 2
        have y3 := HBf.out.cell 3
        refine bodyPost_ret (v := .tuple #[.agg #[.slice none 0 0, .slice none 0 0, .slice none 0 0, .slice none 0 0], .int .i64 er, .int .i64 k]) (by simp [results, Tryz.results8, go_sem, y0, y1, y2, y3]) rfl ?_
        rw [HV.out]
        exact ⟨none, none, none, none, 0, 0, 0, 0, rfl, ⟨Rd.nil, Rd.nil, Rd.nil, Rd.nil, fun _ => rfl, fun _ => rfl, fun _ => rfl, fun _ => rfl⟩, HKf.out⟩
      have hA4 := HA3.out
      rw [HS3.out he] at hA4
      have HA4 := Lib.hid hA4
      subst he
      have HFu := Lib.hid (fullA_any hA4)
      clear hA4
      cases hfu : fullP S1.o with
      | true =>
        rw [hfu] at HFu
        have HV := Lib.hid (prog_bad (HLs2.out.symm.trans ((if_neg (by decide)).trans (if_pos hfu))) (by decide))
        clear hfu
        go_wp2_with (go_at_call 19; refine HFu.out.mono ?_; rintro e w4 ⟨rfl, k4⟩; have HBoxW := Lib.hid (HBox3.out.keep k4 (by simp)); have HKr4 := Lib.hid (HKr3.out.trans k4); clear k4; have f0 := HBoxW.out.frozen 0; have v0 := HBoxW.out.cell 0; have f1 := HBoxW.out.frozen 1; have v1 := HBoxW.out.cell 1; have f2 := HBoxW.out.frozen 2; have v2 := HBoxW.out.cell 2; have f3 := HBoxW.out.frozen 3; have v3 := HBoxW.out.cell 3)
        have HBf : Hid (Blk ((((w4.setCell ⟨w.heap.size, 0, none⟩ (.slice none 0 0)).setCell ⟨w.heap.size, 1, none⟩ (.slice none 0 0)).setCell ⟨w.heap.size, 2, none⟩ (.slice none 0 0)).setCell ⟨w.heap.size, 3, none⟩ (.slice none 0 0)) w.heap.size 31 #[.slice none 0 0, .slice none 0 0, .slice none 0 0, .slice none 0 0]) := Lib.hid (((((HBoxW.out.set_ 0 (.slice none 0 0)).set_ 1 (.slice none 0 0)).set_ 2 (.slice none 0 0)).set_ 3 (.slice none 0 0)))
        have HKf : Hid (Keeps w ((((w4.setCell ⟨w.heap.size, 0, none⟩ (.slice none 0 0)).setCell ⟨w.heap.size, 1, none⟩ (.slice none 0 0)).setCell ⟨w.heap.size, 2, none⟩ (.slice none 0 0)).setCell ⟨w.heap.size, 3, none⟩ (.slice none 0 0)) []) := Lib.hid ((((HKr4.out.setCell (p := ⟨w.heap.size, 0, none⟩) (.inr (Nat.le_refl _)) _).setCell (p := ⟨w.heap.size, 1, none⟩) (.inr (Nat.le_refl _)) _).setCell (p := ⟨w.heap.size, 2, none⟩) (.inr (Nat.le_refl _)) _).setCell (p := ⟨w.heap.size, 3, none⟩) (.inr (Nat.le_refl _)) _)
        generalize ((((w4.setCell ⟨w.heap.size, 0, none⟩ (.slice none 0 0)).setCell ⟨w.heap.size, 1, none⟩ (.slice none 0 0)).setCell ⟨w.heap.size, 2, none⟩ (.slice none 0 0)).setCell ⟨w.heap.size, 3, none⟩ (.slice none 0 0)) = wF at *
        have y0 := HBf.out.cell 0
        have y1 := HBf.out.cell 1
        have y2 := HBf.out.cell 2
        have y3 := HBf.out.cell 3
        refine bodyPost_ret (v := .tuple #[.agg #[.slice none 0 0, .slice none 0 0, .slice none 0 0, .slice none 0 0], .int .i64 2, .int .i64 k]) (by simp [results, Tryz.results8, go_sem, y0, y1, y2, y3]) rfl ?_
        rw [HV.out]
        exact ⟨none, none, none, none, 0, 0, 0, 0, rfl, ⟨Rd.nil, Rd.nil, Rd.nil, Rd.nil, fun _ => rfl, fun _ => rfl, fun _ => rfl, fun _ => rfl⟩, HKf.out⟩
      | false =>
        rw [hfu] at HFu
        have HLs3 := HLs2.out
        rw [if_neg (by decide), hfu] at HLs3
        have HLs4 : Hid (linesP S1 (k + 1) (T.drop (k + 1)) = linesP AS0 0 T) := Lib.hid HLs3
        have HGk := Lib.hid (HGl.out hfu)
        clear hfu HLs3
        go_wp2_with (go_at_call 19; refine HFu.out.mono ?_; rintro e w4 ⟨rfl, k4⟩; have HA5 := Lib.hid (HA4.out.keep0 k4); clear k4)
        go_roundw
        case rel => exact ⟨k + 1, by omega, by go_num, _, _, HA5.out, HGk.out, HLs4⟩
        case measure => simp [intOf]; omega
    · obtain rfl : n = k := by omega
      have hE : linesP AS0 0 T = (S, 0, -1) := by
        have h1 := HLs.out
        rw [List.drop_of_length_le (by rw [HTl.out]; exact Nat.le_refl _)] at h1
        exact h1.symm
      have HPr := Lib.hid (prog_settle hE)
      have HSt := Lib.hid (settleA_any HAs.out HG.out.uses HG.out.lt (HG.out.toFew hn))
      have HGo := Lib.hid (@settle_good S)
      obtain ⟨E, hEE⟩ : ∃ E, least (0, -1) (wrongs S) = E := ⟨_, rfl⟩
      rw [hEE] at HPr HSt HGo
      clear hE hEE HLs hlk hk
      obtain ⟨er, m⟩ := E
      dsimp only at HPr HSt HGo
      go_wp2_with fail
      refine HSt.out.mono ?_
      rintro e w3 ⟨rfl, L3, hA3, hs3⟩
      have HA3 := Lib.hid hA3
      have HBe3 := Lib.hid hA3.bel
      have HBoxW : Hid (Blk w3 w.heap.size 31 #[.slice none 0 0, .slice none 0 0, .slice none 0 0, .slice none 0 0]) := Lib.hid ((HBe3.out.block _ (by rw [HS0.out]; omega)).trans HBox.out)
      have HKr3 : Hid (Keeps w w3 []) := Lib.hid (HK0.out.trans (Keeps.nil_of HBe3.out))
      clear hA3 hs3 HSt HBoxR HKr HBe HAs
      by_cases he : er = 0
      case neg =>
        have d0 : (er == 0) = false := by simpa using he
        have d1 : (er != 0) = true := by simpa using he
        have HV := Lib.hid (HPr.out.trans (if_pos he))
        clear he
        have HBf : Hid (Blk ((((w3.setCell ⟨w.heap.size, 0, none⟩ (.slice none 0 0)).setCell ⟨w.heap.size, 1, none⟩ (.slice none 0 0)).setCell ⟨w.heap.size, 2, none⟩ (.slice none 0 0)).setCell ⟨w.heap.size, 3, none⟩ (.slice none 0 0)) w.heap.size 31 #[.slice none 0 0, .slice none 0 0, .slice none 0 0, .slice none 0 0]) := Lib.hid (((((HBoxW.out.set_ 0 (.slice none 0 0)).set_ 1 (.slice none 0 0)).set_ 2 (.slice none 0 0)).set_ 3 (.slice none 0 0)))
        have HKf : Hid (Keeps w ((((w3.setCell ⟨w.heap.size, 0, none⟩ (.slice none 0 0)).setCell ⟨w.heap.size, 1, none⟩ (.slice none 0 0)).setCell ⟨w.heap.size, 2, none⟩ (.slice none 0 0)).setCell ⟨w.heap.size, 3, none⟩ (.slice none 0 0)) []) := Lib.hid ((((HKr3.out.setCell (p := ⟨w.heap.size, 0, none⟩) (.inr (Nat.le_refl _)) _).setCell (p := ⟨w.heap.size, 1, none⟩) (.inr (Nat.le_refl _)) _).setCell (p := ⟨w.heap.size, 2, none⟩) (.inr (Nat.le_refl _)) _).setCell (p := ⟨w.heap.size, 3, none⟩) (.inr (Nat.le_refl _)) _)
        have f0 := HBoxW.out.frozen 0
        have v0 := HBoxW.out.cell 0
        have f1 := HBoxW.out.frozen 1
        have v1 := HBoxW.out.cell 1
        have f2 := HBoxW.out.frozen 2
        have v2 := HBoxW.out.cell 2
        have f3 := HBoxW.out.frozen 3
        have v3 := HBoxW.out.cell 3
        go_wp2_with fail
        generalize ((((w3.setCell ⟨w.heap.size, 0, none⟩ (.slice none 0 0)).setCell ⟨w.heap.size, 1, none⟩ (.slice none 0 0)).setCell ⟨w.heap.size, 2, none⟩ (.slice none 0 0)).setCell ⟨w.heap.size, 3, none⟩ (.slice none 0 0)) = wF at *
        have y0 := HBf.out.cell 0
        have y1 := HBf.out.cell 1
        have y2 := HBf.out.cell 2
        have y3 := HBf.out.cell 3
        refine bodyPost_ret (v := .tuple #[.agg #[.slice none 0 0, .slice none 0 0, .slice none 0 0, .slice none 0 0], .int .i64 er, .int .i64 m]) (by simp [results, Tryz.results8, go_sem, y0, y1, y2, y3]) rfl ?_
        rw [HV.out]
        exact ⟨none, none, none, none, 0, 0, 0, 0, rfl, ⟨Rd.nil, Rd.nil, Rd.nil, Rd.nil, fun _ => rfl, fun _ => rfl, fun _ => rfl, fun _ => rfl⟩, HKf.out⟩
      have HV := Lib.hid (HPr.out.trans (if_neg (by simp [he])))
      have HSet := Lib.hid (HGo.out he)
      subst he
      obtain ⟨vb, AA, FA, PA, CA, UA, BA, ca, cf, cp, cc, cu, cb, hm, hL, hlt⟩ := HA3.out
      have HM := Lib.hid hm
      have g0 := hm.blk.cell 0
      have g1 := hm.blk.cell 1
      have g2 := hm.blk.cell 2
      have g3 := hm.blk.cell 3
      clear hm hL hlt
      obtain ⟨o, ho⟩ : ∃ o : LObj, ({ S.o with code := codeK S S.uses.length } : LObj) = o := ⟨_, rfl⟩
      simp only [List.getElem?_toArray, List.getElem?_cons_zero, List.getElem?_cons_succ] at g0 g1 g2 g3
      have e0 : S.o.atoms = o.atoms := by rw [← ho]
      have e1 : S.o.funs = o.funs := by rw [← ho]
      have e2 : S.o.preds = o.preds := by rw [← ho]
      have e3 : codeK S S.uses.length = o.code := by rw [← ho]
      rw [e0] at g0
      rw [e1] at g1
      rw [e2] at g2
      rw [e3] at g3
      rw [ho] at HSet
      rw [HSet.out] at HV
      clear e0 e1 e2 e3
      have HBf : Hid (Blk ((((w3.setCell ⟨w.heap.size, 0, none⟩ (.slice AA o.atoms.length ca)).setCell ⟨w.heap.size, 1, none⟩ (.slice FA o.funs.length cf)).setCell ⟨w.heap.size, 2, none⟩ (.slice PA o.preds.length cp)).setCell ⟨w.heap.size, 3, none⟩ (.slice CA o.code.length cc)) w.heap.size 31 #[.slice AA o.atoms.length ca, .slice FA o.funs.length cf, .slice PA o.preds.length cp, .slice CA o.code.length cc]) := Lib.hid (((((HBoxW.out.set_ 0 (.slice AA o.atoms.length ca)).set_ 1 (.slice FA o.funs.length cf)).set_ 2 (.slice PA o.preds.length cp)).set_ 3 (.slice CA o.code.length cc)))
      have HKf : Hid (Keeps w ((((w3.setCell ⟨w.heap.size, 0, none⟩ (.slice AA o.atoms.length ca)).setCell ⟨w.heap.size, 1, none⟩ (.slice FA o.funs.length cf)).setCell ⟨w.heap.size, 2, none⟩ (.slice PA o.preds.length cp)).setCell ⟨w.heap.size, 3, none⟩ (.slice CA o.code.length cc)) []) := Lib.hid ((((HKr3.out.setCell (p := ⟨w.heap.size, 0, none⟩) (.inr (Nat.le_refl _)) _).setCell (p := ⟨w.heap.size, 1, none⟩) (.inr (Nat.le_refl _)) _).setCell (p := ⟨w.heap.size, 2, none⟩) (.inr (Nat.le_refl _)) _).setCell (p := ⟨w.heap.size, 3, none⟩) (.inr (Nat.le_refl _)) _)
      have f0 := HBoxW.out.frozen 0
      have v0 := HBoxW.out.cell 0
      have f1 := HBoxW.out.frozen 1
      have v1 := HBoxW.out.cell 1
      have f2 := HBoxW.out.frozen 2
      have v2 := HBoxW.out.cell 2
      have f3 := HBoxW.out.frozen 3
      have v3 := HBoxW.out.cell 3
      go_wp2_with fail
      have HOb2 : Hid (ObIs ((((w3.setCell ⟨w.heap.size, 0, none⟩ (.slice AA o.atoms.length ca)).setCell ⟨w.heap.size, 1, none⟩ (.slice FA o.funs.length cf)).setCell ⟨w.heap.size, 2, none⟩ (.slice PA o.preds.length cp)).setCell ⟨w.heap.size, 3, none⟩ (.slice CA o.code.length cc)) o AA FA PA CA ca cf cp cc) := Lib.hid (by
        have := AsM.ob2 HM.out (w2 := ((((w3.setCell ⟨w.heap.size, 0, none⟩ (.slice AA o.atoms.length ca)).setCell ⟨w.heap.size, 1, none⟩ (.slice FA o.funs.length cf)).setCell ⟨w.heap.size, 2, none⟩ (.slice PA o.preds.length cp)).setCell ⟨w.heap.size, 3, none⟩ (.slice CA o.code.length cc))) (M := [w.heap.size]) (((((Keeps.refl w3 _).setCell (.inl (by simp)) _).setCell (.inl (by simp)) _).setCell (.inl (by simp)) _).setCell (.inl (by simp)) _) (by have := HS0.out; simp; omega)
        simp only [ho] at this
        exact this)
      generalize ((((w3.setCell ⟨w.heap.size, 0, none⟩ (.slice AA o.atoms.length ca)).setCell ⟨w.heap.size, 1, none⟩ (.slice FA o.funs.length cf)).setCell ⟨w.heap.size, 2, none⟩ (.slice PA o.preds.length cp)).setCell ⟨w.heap.size, 3, none⟩ (.slice CA o.code.length cc)) = wF at *
      have y0 := HBf.out.cell 0
      have y1 := HBf.out.cell 1
      have y2 := HBf.out.cell 2
      have y3 := HBf.out.cell 3
      refine bodyPost_ret (v := .tuple #[.agg #[.slice AA o.atoms.length ca, .slice FA o.funs.length cf, .slice PA o.preds.length cp, .slice CA o.code.length cc], .int .i64 0, .int .i64 (-1)]) (by simp [results, Tryz.results8, go_sem, y0, y1, y2, y3]) rfl ?_
      rw [HV.out]
      exact ⟨AA, FA, PA, CA, ca, cf, cp, cc, rfl, HOb2.out, HKf.out⟩
end Go.Proofs.YtpcihhdalofdiaaGreatDoor
