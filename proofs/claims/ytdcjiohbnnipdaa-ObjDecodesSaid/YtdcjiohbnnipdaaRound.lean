/- Objects as bytes and back: the plain laws. -/
import Derived.Test.YtdcjiohbnnipdaaDec
namespace Go.Proofs.Ytdcjiohbnnipdaa
open Go.RowKit

theorem valB_be : ∀ (k n : Nat), n < 256 ^ k → valB (be k n) = n
  | 0, n, h => by simp at h; subst h; rfl
  | k + 1, n, h => by
    rw [be, valB_snoc, valB_be k (n / 256) (by rw [Nat.pow_succ] at h; exact Nat.div_lt_of_lt_mul (by omega))]
    simp only [Int.toNat_natCast]
    omega
theorem be_valB (l : List Int) : IsByte l → be l.length (valB l) = l := by
  intro h
  induction hn : l.length generalizing l with
  | zero => rw [List.eq_nil_of_length_eq_zero hn]; rfl
  | succ n ih =>
    have hne : l ≠ [] := fun e => by rw [e] at hn; cases hn
    obtain ⟨a, c, rfl⟩ : ∃ a c, l = a ++ [c] := ⟨l.dropLast, l.getLast hne, (List.dropLast_concat_getLast hne).symm⟩
    have ha : a.length = n := by simpa using hn
    have hb : IsByte a := fun x hx => h x (by simp [hx])
    have hc := h c (by simp)
    rw [be, valB_snoc]
    have e1 : (valB a * 256 + c.toNat) / 256 = valB a := by omega
    have e2 : (((valB a * 256 + c.toNat) % 256 : Nat) : Int) = c := by omega
    rw [e1, e2, ih a hb ha]
theorem strB_from (l : List Int) : ∀ acc : ByteArray, (l.foldl (fun r n => r.push (UInt8.ofNat n.toNat)) acc).data.toList = acc.data.toList ++ l.map fun n => UInt8.ofNat n.toNat := by
  induction l with
  | nil => intro acc; simp
  | cons x l ih => intro acc; rw [List.foldl_cons, ih]; simp [ByteArray.push]
theorem strB_list (l : List Int) : (strB l).data.toList = l.map fun n => UInt8.ofNat n.toNat := by
  have := strB_from l ByteArray.empty
  simpa [strB] using this
theorem bytes_str {l : List Int} (h : IsByte l) : bytesOf (strB l) = l := by
  unfold bytesOf
  rw [strB_list, List.map_map]
  conv => rhs; rw [← List.map_id l]
  refine List.map_congr_left (fun x hx => ?_)
  have := h x hx
  simp only [Function.comp, id, UInt8.toNat_ofNat']
  omega
theorem str_bytes (s : ByteArray) : strB (bytesOf s) = s := bytesOf_inj (bytes_str (bytesOf_byte s))
theorem str_size (l : List Int) : (strB l).size = l.length := by
  have := congrArg List.length (strB_list l)
  rw [List.length_map] at this
  exact this

/-! what is encoded is told -/
theorem take_enc {x : List Int} {n : Nat} (t : List Int) (h : x.length = n) : takeR n ⟨x ++ t, 0⟩ = (x, ⟨t, 0⟩) := by
  subst h
  rw [takeR_ok rfl (by simp)]
  simp
theorem num_enc {k n : Nat} (t : List Int) (h : n < 256 ^ k) : numR k ⟨be k n ++ t, 0⟩ = (n, ⟨t, 0⟩) := by
  rw [numR, take_enc t (be_len k n), valB_be k n h]
theorem name_enc {s : ByteArray} (t : List Int) (h : s.size < 256) : nameR ⟨nameB s ++ t, 0⟩ = (s, ⟨t, 0⟩) := by
  rw [nameR, nameB, List.append_assoc, num_enc _ (by omega), take_enc t (bytesOf_len s), str_bytes]
theorem fun_enc {f : LFun} (t : List Int) (h : f.name.size ≤ 32 ∧ 0 ≤ f.arity ∧ f.arity ≤ 8) : funR ⟨funB f ++ t, 0⟩ = (f, ⟨t, 0⟩) := by
  obtain ⟨nm, ar⟩ := f
  obtain ⟨h1, h2, h3⟩ := h
  simp only at h1 h2 h3
  rw [funR, funB, List.append_assoc, name_enc _ (by simp only; omega), num_enc t (by simp only; omega)]
  simp only [Int.toNat_of_nonneg h2]
theorem pred_enc {p : LPred} (t : List Int) (h : p.name.size ≤ 32 ∧ 0 ≤ p.arity ∧ p.arity ≤ 8 ∧ 0 ≤ p.entry ∧ p.entry ≤ 65535) : predR ⟨predB p ++ t, 0⟩ = (p, ⟨t, 0⟩) := by
  obtain ⟨nm, ar, en⟩ := p
  obtain ⟨h1, h2, h3, h4, h5⟩ := h
  simp only at h1 h2 h3 h4 h5
  rw [predR, predB, List.append_assoc, name_enc _ (by simp only; omega), List.append_assoc, num_enc _ (by simp only; omega), num_enc t (by simp only; omega)]
  simp only [Int.toNat_of_nonneg h2, Int.toNat_of_nonneg h4]
theorem args_enc (t : List Int) : ∀ (ks : List Int) (f : Nat → Nat), (∀ k, k < ks.length → f k < 256 ^ szOf (ks.getD k 0)) →
    argsR ks ⟨((List.range ks.length).flatMap fun k => be (szOf (ks.getD k 0)) (f k)) ++ t, 0⟩ = ((List.range ks.length).map fun k => (f k : Int), ⟨t, 0⟩)
  | [], f, _ => rfl
  | k :: ks, f, h => by
    have h0 := h 0 (by simp)
    have ih := args_enc t ks (fun j => f (j + 1)) (fun j hj => by have := h (j + 1) (by simpa using hj); simpa using this)
    simp only [List.getD_cons_zero] at h0
    rw [List.length_cons, List.range_succ_eq_map, List.flatMap_cons, List.flatMap_map, List.append_assoc, argsR]
    simp only [List.getD_cons_zero, List.getD_cons_succ]
    rw [num_enc _ h0, ih, List.map_cons, List.map_map]
    rfl
theorem kinds_sz {op : Int} {k : Nat} {n : Int} (q : Nat) (hq : (kindsOf op)[k]? = some (q : Int)) (h : mayOk op q n = true) : n.toNat < 256 ^ szOf (q : Int) := by
  by_cases h8 : q = 8
  · subst h8
    have : szOf ((8 : Nat) : Int) = 2 := rfl
    rw [this]
    have h1 := mayOk_top h
    omega
  · have hsz : szOf (q : Int) = 1 := by unfold szOf; rw [if_neg (by omega)]
    rw [hsz]
    have hop : op ≠ 26 := by
      rintro rfl
      have hk : kindsOf 26 = [8, 8, 8, 8] := rfl
      rw [hk] at hq
      have := List.mem_of_getElem? hq
      simp at this
      omega
    simp only [mayOk, Bool.or_eq_true, Bool.and_eq_true, decide_eq_true_eq, beq_iff_eq] at h
    rcases h with h | h
    · have hm : mostOf q ≤ 255 := by
        unfold mostOf mosts
        match q, h8 with
        | 0, _ => decide
        | 1, _ => decide
        | 2, _ => decide
        | 3, _ => decide
        | 4, _ => decide
        | 5, _ => decide
        | 6, _ => decide
        | 7, _ => decide
        | 8, h => exact absurd rfl h
        | 9, _ => decide
        | n + 10, _ => simp
      omega
    · exact absurd h.1 hop
theorem insOk_range {i : LIns} (h : insOk i = true) {k : Nat} (hk : k < (kindsOf i.op).length) : (i.arg k).toNat < 256 ^ szOf ((kindsOf i.op).getD k 0) := by
  have hlen := kinds_few i.op
  simp only [insOk, Bool.and_eq_true, List.all_eq_true, List.mem_range] at h
  have h1 := h.2 k (by omega)
  obtain ⟨q, hq⟩ := Int.eq_ofNat_of_zero_le (show 0 ≤ (kindsOf i.op)[k] by have := kinds_mem i.op _ (List.getElem_mem hk); omega)
  have hg : (kindsOf i.op)[k]? = some (q : Int) := by rw [List.getElem?_eq_getElem hk, hq]
  rw [argOk, hg] at h1
  rw [List.getD_eq_getElem?_getD, hg]
  exact kinds_sz q hg h1
theorem insOk_rest {i : LIns} (h : insOk i = true) {k : Nat} (hk : (kindsOf i.op).length ≤ k) (h4 : k < 4) : i.arg k = 0 := by
  simp only [insOk, Bool.and_eq_true, List.all_eq_true, List.mem_range] at h
  have h1 := h.2 k h4
  rw [argOk, List.getElem?_eq_none hk] at h1
  simpa using h1
theorem ins_ext {i j : LIns} (h0 : i.op = j.op) (h : ∀ k, k < 4 → i.arg k = j.arg k) : i = j := by
  obtain ⟨o, a, b, c, d⟩ := i
  obtain ⟨o', a', b', c', d'⟩ := j
  have e0 := h 0 (by omega)
  have e1 := h 1 (by omega)
  have e2 := h 2 (by omega)
  have e3 := h 3 (by omega)
  simp only [LIns.arg] at e0 e1 e2 e3 h0
  subst e0 e1 e2 e3 h0
  rfl
theorem insOf_arg (op : Int) (l : List Int) {k : Nat} (hk : k < 4) : (insOf op l).arg k = l.getD k 0 := by
  match k, hk with
  | 0, _ => rfl
  | 1, _ => rfl
  | 2, _ => rfl
  | 3, _ => rfl
theorem ins_enc {i : LIns} (t : List Int) (h : opIn i.op = true) (h2 : insOk i = true) : insR ⟨insB i ++ t, 0⟩ = (i, ⟨t, 0⟩) := by
  have ho : 0 ≤ i.op ∧ i.op ≤ 26 := by simpa [opIn] using h
  obtain ⟨m, hm⟩ := Int.eq_ofNat_of_zero_le ho.1
  have hmt : i.op.toNat = m := by omega
  have ha := args_enc t (kindsOf i.op) (fun k => (i.arg k).toNat) (fun k hk => insOk_range h2 hk)
  have hn : numR 1 ⟨insB i ++ t, 0⟩ = (m, ⟨((List.range (kindsOf i.op).length).flatMap (argB i)) ++ t, 0⟩) := by
    rw [insB, List.append_assoc, hmt]
    exact num_enc _ (by omega)
  have hop : opR m ⟨((List.range (kindsOf i.op).length).flatMap (argB i)) ++ t, 0⟩ = ⟨((List.range (kindsOf i.op).length).flatMap (argB i)) ++ t, 0⟩ := by
    rw [opR, if_neg (by omega)]
  rw [insR, hn]
  simp only
  rw [hop, ← hm]
  have ha2 : argsR (kindsOf i.op) ⟨((List.range (kindsOf i.op).length).flatMap (argB i)) ++ t, 0⟩ = _ := ha
  rw [ha2]
  congr 1
  refine ins_ext rfl (fun k hk => ?_)
  rw [insOf_arg _ _ hk, List.getD_eq_getElem?_getD, List.getElem?_map]
  by_cases hlt : k < (kindsOf i.op).length
  · rw [List.getElem?_range hlt]
    have := insOk_arg h2 hlt
    simp only [Option.map_some, Option.getD_some]
    omega
  · rw [List.getElem?_eq_none (by simpa using hlt)]
    have := insOk_rest h2 (by omega) hk
    simp only [Option.map_none, Option.getD_none]
    exact this.symm
theorem many_enc {α : Type} {rd : RdS → α × RdS} {enc : α → List Int} (t : List Int) : ∀ (l : List α), (∀ x ∈ l, ∀ t, rd ⟨enc x ++ t, 0⟩ = (x, ⟨t, 0⟩)) → manyR rd l.length ⟨l.flatMap enc ++ t, 0⟩ = (l, ⟨t, 0⟩)
  | [], _ => rfl
  | x :: l, h => by
    rw [List.length_cons, List.flatMap_cons, List.append_assoc, manyR, if_pos rfl, h x (by simp)]
    simp only
    rw [many_enc t l (fun y hy => h y (by simp [hy]))]
theorem mark_enc (c : Int) (t : List Int) : markR c ⟨c :: t, 0⟩ = ⟨t, 0⟩ := by
  have h : takeR 1 ⟨c :: t, 0⟩ = ([c], ⟨t, 0⟩) := take_enc (x := [c]) t rfl
  rw [markR, h, if_neg (by simp)]
theorem magic_enc (t : List Int) : magicR ⟨[82, 83, 76, 86, 1] ++ t, 0⟩ = ⟨t, 0⟩ := by
  simp only [magicR, magicL, List.foldl_cons, List.foldl_nil, List.cons_append, List.nil_append, mark_enc]
theorem head_enc {o : LObj} (t : List Int) (h : bigO o = false) : headR ⟨headB o ++ t, 0⟩ = ⟨o.atoms.length, o.funs.length, o.preds.length, o.code.length, ⟨t, 0⟩⟩ := by
  have hb := h
  simp only [bigO, bigB_or, Bool.or_eq_false_iff, decide_eq_false_iff_not] at h
  rw [headR, headB]
  simp only [List.append_assoc]
  rw [magic_enc, num_enc _ (by omega)]
  simp only
  rw [num_enc _ (by omega)]
  simp only
  rw [num_enc _ (by omega)]
  simp only
  rw [num_enc _ (by omega)]
  simp only
  rw [fullR, if_neg (by rintro ⟨_, h2⟩; rw [bigO] at hb; rw [hb] at h2; cases h2)]
theorem obj_enc {o : LObj} (t : List Int) (h : checkE o = 0) : objR ⟨bodyB o ++ t, 0⟩ = (o, ⟨t, 0⟩) := by
  have hr := checkE_range h
  obtain ⟨r1, r2, r3, r4⟩ := enc_ranges h
  have hh : headR ⟨bodyB o ++ t, 0⟩ = ⟨o.atoms.length, o.funs.length, o.preds.length, o.code.length, ⟨(o.atoms.flatMap nameB ++ (o.funs.flatMap funB ++ (o.preds.flatMap predB ++ o.code.flatMap insB))) ++ t, 0⟩⟩ := by
    rw [bodyB, List.append_assoc]
    exact head_enc _ hr.1
  have hp : partsR (headR ⟨bodyB o ++ t, 0⟩) = (o, ⟨t, 0⟩) := by
    rw [hh, partsR]
    simp only [List.append_assoc]
    rw [many_enc _ o.atoms (fun s hs t => name_enc t (by have := r1 s hs; omega))]
    simp only
    rw [many_enc _ o.funs (fun s hs t => fun_enc t (r2 s hs))]
    simp only
    rw [many_enc _ o.preds (fun s hs t => pred_enc t (r3 s hs))]
    simp only
    rw [many_enc _ o.code (fun s hs t => ins_enc t (hr.2.2.2 s hs).1 (hr.2.2.2 s hs).2)]
  rw [objR, hp]
  show (o, checkR o ⟨t, 0⟩) = _
  rw [checkR, if_pos rfl, h]
/-- Each object that may be is told by its bytes. -/
theorem dec_enc {o : LObj} (h : checkE o = 0) : decB (encB o) = (o, 0) := by
  have hb := Crc.int_bd (Crc.go 0#32 (bodyB o))
  have ho : objR ⟨encB o, 0⟩ = (o, ⟨sumB (bodyB o), 0⟩) := obj_enc (sumB (bodyB o)) h
  have hn : numR 4 ⟨sumB (bodyB o), 0⟩ = ((Crc.int (Crc.go 0#32 (bodyB o))).toNat, ⟨[], 0⟩) := by
    have := num_enc (k := 4) (n := (Crc.int (Crc.go 0#32 (bodyB o))).toNat) [] (by omega)
    rwa [List.append_nil] at this
  have hl : (encB o).length - (sumB (bodyB o)).length = (bodyB o).length := by rw [encB, List.length_append]; omega
  have ht : (encB o).take (bodyB o).length = bodyB o := by rw [encB]; exact List.take_left
  rw [decB, ho]
  simp only
  rw [hn]
  simp only
  rw [if_neg (by simp), if_neg (by simp), if_neg]
  rw [hl, ht]
  intro hc
  exact hc (by omega)

/-! what is told is encoded -/
theorem flat_congr {α β : Type} {f g : α → List β} {l : List α} (h : ∀ x ∈ l, f x = g x) : l.flatMap f = l.flatMap g := by
  induction l with
  | nil => rfl
  | cons a l ih => rw [List.flatMap_cons, List.flatMap_cons, h a (by simp), ih (fun x hx => h x (by simp [hx]))]
theorem nameR_bytes {s : RdS} (h : IsByte s.rest) : IsByte (nameR s).2.rest := (takeR_byte (numR_byte h)).2
theorem funR_bytes {s : RdS} (h : IsByte s.rest) : IsByte (funR s).2.rest := numR_byte (k := 1) (nameR_bytes h)
theorem predR_bytes {s : RdS} (h : IsByte s.rest) : IsByte (predR s).2.rest := numR_byte (k := 2) (numR_byte (k := 1) (nameR_bytes h))
theorem manyR_bytes {α : Type} {rd : RdS → α × RdS} (h : ∀ s, IsByte s.rest → IsByte (rd s).2.rest) : ∀ (n : Nat) (s : RdS), IsByte s.rest → IsByte (manyR rd n s).2.rest
  | 0, _, hb => hb
  | n + 1, s, hb => by
    rw [manyR]
    split
    · exact manyR_bytes h n _ (h s hb)
    · exact hb
theorem take_inv {n : Nat} {s : RdS} (h : (takeR n s).2.err = 0) : s.err = 0 ∧ s.rest = (takeR n s).1 ++ (takeR n s).2.rest ∧ (takeR n s).1.length = n := by
  by_cases he : s.err = 0
  · by_cases hn : n ≤ s.rest.length
    · rw [takeR_ok he hn]
      exact ⟨he, (List.take_append_drop n s.rest).symm, by rw [List.length_take]; omega⟩
    · rw [takeR_short he hn] at h
      cases h
  · rw [takeR_bad he] at h
    exact absurd h he
theorem num_inv {k : Nat} {s : RdS} (hb : IsByte s.rest) (h : (numR k s).2.err = 0) : s.err = 0 ∧ s.rest = be k (numR k s).1 ++ (numR k s).2.rest ∧ IsByte (numR k s).2.rest := by
  obtain ⟨h1, h2, h3⟩ := take_inv (n := k) (s := s) h
  have hb1 := takeR_byte (n := k) hb
  refine ⟨h1, ?_, hb1.2⟩
  have hv := be_valB (takeR k s).1 hb1.1
  rw [h3] at hv
  show s.rest = be k (valB (takeR k s).1) ++ (takeR k s).2.rest
  rw [hv]
  exact h2
theorem name_inv {s : RdS} (hb : IsByte s.rest) (h : (nameR s).2.err = 0) : s.err = 0 ∧ s.rest = nameB (nameR s).1 ++ (nameR s).2.rest ∧ IsByte (nameR s).2.rest := by
  obtain ⟨h1, h2, h3⟩ := take_inv (n := (numR 1 s).1) (s := (numR 1 s).2) h
  obtain ⟨g1, g2, g3⟩ := num_inv hb h1
  have hb1 := takeR_byte (n := (numR 1 s).1) g3
  refine ⟨g1, ?_, hb1.2⟩
  show s.rest = nameB (strB (takeR (numR 1 s).1 (numR 1 s).2).1) ++ (takeR (numR 1 s).1 (numR 1 s).2).2.rest
  rw [nameB, str_size, h3, bytes_str hb1.1, List.append_assoc, ← h2]
  exact g2
theorem fun_inv {s : RdS} (hb : IsByte s.rest) (h : (funR s).2.err = 0) : s.err = 0 ∧ s.rest = funB (funR s).1 ++ (funR s).2.rest ∧ IsByte (funR s).2.rest := by
  have h' : (numR 1 (nameR s).2).2.err = 0 := h
  have hn : ∀ hb2, _ := fun hb2 => num_inv (k := 1) (s := (nameR s).2) hb2 h'
  have he : (nameR s).2.err = 0 := by
    by_cases h0 : (nameR s).2.err = 0
    · exact h0
    · rw [numR_keep h0] at h'; exact absurd h' h0
  obtain ⟨g1, g2, g3⟩ := name_inv hb he
  obtain ⟨f1, f2, f3⟩ := num_inv g3 h'
  refine ⟨g1, ?_, f3⟩
  show s.rest = (nameB (nameR s).1 ++ be 1 ((numR 1 (nameR s).2).1 : Int).toNat) ++ (numR 1 (nameR s).2).2.rest
  rw [Int.toNat_natCast, List.append_assoc, ← f2]
  exact g2
theorem pred_inv {s : RdS} (hb : IsByte s.rest) (h : (predR s).2.err = 0) : s.err = 0 ∧ s.rest = predB (predR s).1 ++ (predR s).2.rest ∧ IsByte (predR s).2.rest := by
  have h' : (numR 2 (numR 1 (nameR s).2).2).2.err = 0 := h
  have he1 : (numR 1 (nameR s).2).2.err = 0 := by
    by_cases h0 : (numR 1 (nameR s).2).2.err = 0
    · exact h0
    · rw [numR_keep h0] at h'; exact absurd h' h0
  have he : (nameR s).2.err = 0 := by
    by_cases h0 : (nameR s).2.err = 0
    · exact h0
    · rw [numR_keep h0] at he1; exact absurd he1 h0
  obtain ⟨g1, g2, g3⟩ := name_inv hb he
  obtain ⟨f1, f2, f3⟩ := num_inv g3 he1
  obtain ⟨e1, e2, e3⟩ := num_inv f3 h'
  refine ⟨g1, ?_, e3⟩
  show s.rest = (nameB (nameR s).1 ++ (be 1 ((numR 1 (nameR s).2).1 : Int).toNat ++ be 2 ((numR 2 (numR 1 (nameR s).2).2).1 : Int).toNat)) ++ (numR 2 (numR 1 (nameR s).2).2).2.rest
  rw [Int.toNat_natCast, Int.toNat_natCast, List.append_assoc, List.append_assoc, ← e2, ← f2]
  exact g2
theorem args_inv : ∀ (ks : List Int) (s : RdS), IsByte s.rest → (argsR ks s).2.err = 0 →
    s.err = 0 ∧ s.rest = ((List.range ks.length).flatMap fun k => be (szOf (ks.getD k 0)) ((argsR ks s).1.getD k 0).toNat) ++ (argsR ks s).2.rest ∧ IsByte (argsR ks s).2.rest
  | [], s, hb, h => ⟨h, rfl, hb⟩
  | k :: ks, s, hb, h => by
    have h' : (argsR ks (numR (szOf k) s).2).2.err = 0 := h
    have hnb : IsByte (numR (szOf k) s).2.rest := numR_byte hb
    obtain ⟨h1, h2, h3⟩ := args_inv ks _ hnb h'
    obtain ⟨g1, g2, g3⟩ := num_inv hb h1
    refine ⟨g1, ?_, h3⟩
    rw [List.length_cons, List.range_succ_eq_map, List.flatMap_cons, List.flatMap_map, List.append_assoc]
    simp only [argsR, List.getD_cons_zero, List.getD_cons_succ, Int.toNat_natCast]
    rw [← h2]
    exact g2
theorem ins_inv {s : RdS} (hb : IsByte s.rest) (h : (insR s).2.err = 0) : s.err = 0 ∧ s.rest = insB (insR s).1 ++ (insR s).2.rest ∧ IsByte (insR s).2.rest := by
  have h' : (argsR (kindsOf (numR 1 s).1) (opR (numR 1 s).1 (numR 1 s).2)).2.err = 0 := h
  have hnb : IsByte (numR 1 s).2.rest := numR_byte hb
  have hob : IsByte (opR (numR 1 s).1 (numR 1 s).2).rest := by
    unfold opR
    split
    · exact hnb
    · exact hnb
  obtain ⟨h1, h2, h3⟩ := args_inv _ _ hob h'
  have hop : opR (numR 1 s).1 (numR 1 s).2 = (numR 1 s).2 := by
    by_cases hc : (numR 1 s).2.err = 0 ∧ 26 < (numR 1 s).1
    · rw [opR, if_pos hc] at h1
      cases h1
    · rw [opR, if_neg hc]
  rw [hop] at h1 h2
  obtain ⟨g1, g2, g3⟩ := num_inv hb h1
  refine ⟨g1, ?_, h3⟩
  have hlen := argsR_len (kindsOf (numR 1 s).1) (opR (numR 1 s).1 (numR 1 s).2)
  have hfew := kinds_few ((numR 1 s).1 : Int)
  have hins : insB (insR s).1 = be 1 (numR 1 s).1 ++ ((List.range (kindsOf (numR 1 s).1).length).flatMap fun k => be (szOf ((kindsOf (numR 1 s).1).getD k 0)) ((argsR (kindsOf (numR 1 s).1) (numR 1 s).2).1.getD k 0).toNat) := by
    rw [insR, hop]
    show be 1 ((numR 1 s).1 : Int).toNat ++ _ = _
    rw [Int.toNat_natCast]
    congr 1
    refine flat_congr fun k hk => ?_
    rw [List.mem_range] at hk
    have hk' : k < (kindsOf (numR 1 s).1).length := hk
    show be (szOf ((kindsOf (numR 1 s).1).getD k 0)) ((insOf (numR 1 s).1 _).arg k).toNat = _
    rw [insOf_arg _ _ (by omega)]
  have hrest : (insR s).2.rest = (argsR (kindsOf (numR 1 s).1) (numR 1 s).2).2.rest := by rw [insR, hop]
  rw [hins, hrest, List.append_assoc, ← h2]
  exact g2
theorem many_inv {α : Type} {rd : RdS → α × RdS} {enc : α → List Int} (hrd : ∀ s, IsByte s.rest → (rd s).2.err = 0 → s.err = 0 ∧ s.rest = enc (rd s).1 ++ (rd s).2.rest ∧ IsByte (rd s).2.rest) :
    ∀ (n : Nat) (s : RdS), IsByte s.rest → (manyR rd n s).2.err = 0 → s.err = 0 ∧ s.rest = (manyR rd n s).1.flatMap enc ++ (manyR rd n s).2.rest ∧ (manyR rd n s).1.length = n ∧ IsByte (manyR rd n s).2.rest
  | 0, s, hb, h => ⟨h, rfl, rfl, hb⟩
  | n + 1, s, hb, h => by
    by_cases he : s.err = 0
    · rw [manyR, if_pos he] at h ⊢
      simp only at h ⊢
      have hrest : IsByte (rd s).2.rest ∨ ¬ (rd s).2.err = 0 := by
        by_cases h0 : (rd s).2.err = 0
        · exact .inl (hrd s hb h0).2.2
        · exact .inr h0
      rcases hrest with hr | hr
      · obtain ⟨i1, i2, i3, i4⟩ := many_inv hrd n _ hr h
        obtain ⟨g1, g2, g3⟩ := hrd s hb i1
        refine ⟨g1, ?_, by rw [List.length_cons, i3], i4⟩
        rw [List.flatMap_cons, List.append_assoc, ← i2]
        exact g2
      · have : manyR rd n (rd s).2 = ([], (rd s).2) := by
          cases n with
          | zero => rfl
          | succ n => rw [manyR, if_neg hr]
        rw [this] at h
        exact absurd h hr
    · rw [manyR, if_neg he] at h
      exact absurd h he
theorem mark_inv {c : Int} {s : RdS} (hb : IsByte s.rest) (h : (markR c s).err = 0) : s.err = 0 ∧ s.rest = c :: (markR c s).rest ∧ IsByte (markR c s).rest := by
  by_cases hc : (takeR 1 s).1.length = 1 ∧ (takeR 1 s).1.getD 0 0 ≠ c
  · rw [markR, if_pos hc] at h
    cases h
  · rw [markR, if_neg hc] at h ⊢
    obtain ⟨h1, h2, h3⟩ := take_inv h
    refine ⟨h1, ?_, (takeR_byte hb).2⟩
    have hx : (takeR 1 s).1 = [c] := by
      have hd : (takeR 1 s).1.getD 0 0 = c := by
        by_cases hd : (takeR 1 s).1.getD 0 0 = c
        · exact hd
        · exact absurd ⟨h3, hd⟩ hc
      generalize (takeR 1 s).1 = x at *
      match x, h3 with
      | [y], _ => simp at hd; rw [hd]
    rw [hx] at h2
    exact h2
theorem magic_inv {s : RdS} (hb : IsByte s.rest) (h : (magicR s).err = 0) : s.err = 0 ∧ s.rest = [82, 83, 76, 86, 1] ++ (magicR s).rest ∧ IsByte (magicR s).rest := by
  have b1 : IsByte (markR 82 s).rest := markR_byte hb
  have b2 : IsByte (markR 83 (markR 82 s)).rest := markR_byte b1
  have b3 : IsByte (markR 76 (markR 83 (markR 82 s))).rest := markR_byte b2
  have b4 : IsByte (markR 86 (markR 76 (markR 83 (markR 82 s)))).rest := markR_byte b3
  have hm : magicR s = markR 1 (markR 86 (markR 76 (markR 83 (markR 82 s)))) := by simp only [magicR, magicL, List.foldl_cons, List.foldl_nil]
  rw [hm] at h ⊢
  obtain ⟨e5, r5, k5⟩ := mark_inv (c := 1) b4 h
  obtain ⟨e4, r4, _⟩ := mark_inv b3 e5
  obtain ⟨e3, r3, _⟩ := mark_inv b2 e4
  obtain ⟨e2, r2, _⟩ := mark_inv b1 e3
  obtain ⟨e1, r1, _⟩ := mark_inv hb e2
  exact ⟨e1, r1.trans (congrArg _ (r2.trans (congrArg _ (r3.trans (congrArg _ (r4.trans (congrArg _ r5))))))), k5⟩
theorem head_inv {s : RdS} (hb : IsByte s.rest) (h : (headR s).s.err = 0) :
    s.err = 0 ∧ s.rest = [82, 83, 76, 86, 1] ++ (be 2 (headR s).na ++ (be 2 (headR s).nf ++ (be 2 (headR s).np ++ (be 2 (headR s).nc ++ (headR s).s.rest)))) ∧ IsByte (headR s).s.rest := by
  rw [headR] at h ⊢
  simp only at h ⊢
  generalize hm : magicR s = s0 at *
  have b0 : IsByte s0.rest := by rw [← hm]; exact magicR_byte hb
  have b1 := numR_byte (k := 2) b0
  have b2 := numR_byte (k := 2) b1
  have b3 := numR_byte (k := 2) b2
  have b4 := numR_byte (k := 2) b3
  generalize hc : numR 2 (numR 2 (numR 2 (numR 2 s0).2).2).2 = c at *
  have hful : fullR (numR 2 s0).1 (numR 2 (numR 2 s0).2).1 (numR 2 (numR 2 (numR 2 s0).2).2).1 c.1 c.2 = c.2 := by
    by_cases hq : c.2.err = 0 ∧ bigB (numR 2 s0).1 (numR 2 (numR 2 s0).2).1 (numR 2 (numR 2 (numR 2 s0).2).2).1 c.1 = true
    · rw [fullR, if_pos hq] at h; cases h
    · rw [fullR, if_neg hq]
  rw [hful] at h ⊢
  rw [← hc] at h
  obtain ⟨e4, r4, k4⟩ := num_inv b3 h
  obtain ⟨e3, r3, _⟩ := num_inv b2 e4
  obtain ⟨e2, r2, _⟩ := num_inv b1 e3
  obtain ⟨e1, r1, _⟩ := num_inv b0 e2
  rw [hc] at r4 k4
  rw [← hm] at e1
  obtain ⟨e0, r0, _⟩ := magic_inv hb e1
  refine ⟨e0, ?_, k4⟩
  rw [r0, hm, ← r4, ← r3, ← r2, ← r1]
attribute [local irreducible] takeR numR nameR insR markR headR manyR checkE bodyB encB
theorem obj_inv {s : RdS} (hb : IsByte s.rest) (h : (objR s).2.err = 0) : s.rest = bodyB (objR s).1 ++ (objR s).2.rest ∧ checkE (objR s).1 = 0 := by
  rw [objR] at h ⊢
  simp only at h ⊢
  have hck : (partsR (headR s)).2.err = 0 ∧ checkE (partsR (headR s)).1 = 0 := by
    by_cases he : (partsR (headR s)).2.err = 0
    · rw [checkR, if_pos he] at h; exact ⟨he, h⟩
    · rw [checkR, if_neg he] at h; exact absurd h he
  obtain ⟨hp, hce⟩ := hck
  have hcr : (checkR (partsR (headR s)).1 (partsR (headR s)).2).rest = (partsR (headR s)).2.rest := by rw [checkR, if_pos hp]
  rw [hcr]
  refine ⟨?_, hce⟩
  have hhb : IsByte (headR s).s.rest ∨ ¬ (headR s).s.err = 0 := by
    by_cases h0 : (headR s).s.err = 0
    · exact .inl (head_inv hb h0).2.2
    · exact .inr h0
  rcases hhb with hhb | hbad
  · generalize hh : headR s = H at *
    obtain ⟨na, nf, np, nc, s0⟩ := H
    rw [partsR] at hp hce ⊢
    simp only at hp hce hhb ⊢
    have b1 : IsByte (manyR nameR na s0).2.rest := manyR_bytes (fun s h => nameR_bytes h) na s0 hhb
    have b2 : IsByte (manyR funR nf (manyR nameR na s0).2).2.rest := manyR_bytes (fun s h => funR_bytes h) nf _ b1
    have b3 : IsByte (manyR predR np (manyR funR nf (manyR nameR na s0).2).2).2.rest := manyR_bytes (fun s h => predR_bytes h) np _ b2
    obtain ⟨e3, r3, l3, _⟩ := many_inv (enc := insB) (fun s hb h => ins_inv hb h) nc _ b3 hp
    obtain ⟨e2, r2, l2, _⟩ := many_inv (enc := predB) (fun s hb h => pred_inv hb h) np _ b2 e3
    obtain ⟨e1, r1, l1, _⟩ := many_inv (enc := funB) (fun s hb h => fun_inv hb h) nf _ b1 e2
    obtain ⟨e0, r0, l0, _⟩ := many_inv (enc := nameB) (fun s hb h => name_inv hb h) na _ hhb e1
    have hi := head_inv hb (by rw [hh]; exact e0)
    rw [hh] at hi
    obtain ⟨_, hr, _⟩ := hi
    simp only at hr
    rw [hr, r0, r1, r2, r3, bodyB, headB]
    simp only [l0, l1, l2, l3, List.append_assoc]
  · have hpb : (partsR (headR s)).2 = (headR s).s := by
      have hk : ∀ {α : Type} (rd : RdS → α × RdS) (n : Nat) (s : RdS), s.err ≠ 0 → manyR rd n s = ([], s) := fun rd n s hs => by
        cases n with
        | zero => rw [manyR]
        | succ n => rw [manyR, if_neg hs]
      rw [partsR]
      simp only
      rw [hk nameR _ _ hbad]
      simp only
      rw [hk funR _ _ hbad]
      simp only
      rw [hk predR _ _ hbad]
      simp only
      rw [hk insR _ _ hbad]
    rw [hpb] at hp
    exact absurd hp hbad
/-- What is told is told by just these bytes. -/
theorem enc_dec {l : List Int} {o : LObj} (hb : IsByte l) (h : decB l = (o, 0)) : checkE o = 0 ∧ encB o = l := by
  rw [decB] at h
  by_cases h1 : (numR 4 (objR ⟨l, 0⟩).2).2.err = 0
  · rw [if_neg (fun hn => hn h1)] at h
    by_cases h2 : (numR 4 (objR ⟨l, 0⟩).2).2.rest = []
    · rw [if_neg (fun hn => hn h2)] at h
      by_cases h3 : ((numR 4 (objR ⟨l, 0⟩).2).1 : Int) = Crc.int (Crc.go 0#32 (l.take (l.length - (objR ⟨l, 0⟩).2.rest.length)))
      · rw [if_neg (fun hn => hn h3)] at h
        have ho : (objR ⟨l, 0⟩).1 = o := congrArg Prod.fst h
        have he : (objR ⟨l, 0⟩).2.err = 0 := by
          by_cases h0 : (objR ⟨l, 0⟩).2.err = 0
          · exact h0
          · rw [numR_keep h0] at h1; exact absurd h1 h0
        obtain ⟨i1, i2⟩ := obj_inv (s := ⟨l, 0⟩) hb he
        rw [ho] at i1 i2
        refine ⟨i2, ?_⟩
        simp only at i1
        have hrb : IsByte (objR ⟨l, 0⟩).2.rest := fun x hx => hb x (by rw [i1]; simp [hx])
        obtain ⟨_, j2, _⟩ := num_inv hrb h1
        rw [h2, List.append_nil] at j2
        have hlen : l.length - (objR ⟨l, 0⟩).2.rest.length = (bodyB o).length := by
          have := congrArg List.length i1
          rw [List.length_append] at this
          omega
        have ht : l.take (l.length - (objR ⟨l, 0⟩).2.rest.length) = bodyB o := by
          have h4 : (bodyB o ++ (objR ⟨l, 0⟩).2.rest).take (bodyB o).length = bodyB o := List.take_left
          rw [← i1] at h4
          rw [hlen]
          exact h4
        rw [ht] at h3
        rw [encB, sumB, ← h3, Int.toNat_natCast, ← j2]
        exact i1.symm
      · rw [if_pos h3] at h
        have := congrArg Prod.snd h
        cases this
    · rw [if_pos h2] at h
      have := congrArg Prod.snd h
      cases this
  · rw [if_pos h1] at h
    have := congrArg Prod.snd h
    exact absurd this h1
end Go.Proofs.Ytdcjiohbnnipdaa
