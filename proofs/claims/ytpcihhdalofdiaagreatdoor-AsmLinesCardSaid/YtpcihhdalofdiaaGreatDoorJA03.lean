/- An object's lines: the program's Lines. Printed by gen_aslin.py. -/
import Derived.Test.YtpcihhdalofdiaaGreatDoorJA02
import Derived.Test.YtpcihhdalofdiaaGreatDoorTxtK
namespace Go.Proofs.YtpcihhdalofdiaaGreatDoor
open Go.RowKit Go.Maps
attribute [local irreducible] numT kindsOf nameOf checkE fitsP operandP plainP labelP slashP namedT programP insTxt wordsOf tgI tgL textT bigB

def isEnt (x : Int) (p : LPred) : Bool := p.entry == x
theorem ent1_any (x : Int) (p : LPred) (g : Nat) (w : World) (hg : Blk w g 3 #[.int .i64 x]) :
    Calls Tryz.prog 33 #[.agg #[.string p.name, .int .i64 p.arity, .int .i64 p.entry], .pointer (some ⟨g, 0, none⟩)] w fun e w' => e = .returned (.bool (isEnt x p)) ∧ Keeps w w' [] := by
  have k1 := (hg.alloc (.cells #[.string p.name, .int .i64 p.arity, .int .i64 p.entry] 52)).cell 0
  have HK : Hid (Keeps w (w.alloc (.cells #[.string p.name, .int .i64 p.arity, .int .i64 p.entry] 52)) []) := (Keeps.refl w []).alloc _
  have HV : Hid (isEnt x p = (p.entry == x)) := rfl
  clear hg
  go_enter Tryz.func33, Tryz.ntmps33
  go_wp2_with fail
  go_ret
  exact ⟨by rw [HV.out]; rfl, HK.out⟩
set_option maxHeartbeats 1600000 in
theorem entIdx_any (A : Option Addr) (n c : Nat) (l : List LPred) (x0 : Int) (g : Nat) (w : World) (hl : l.length = n) (hn : n ≤ 65536) (hA : Rd w A (l.flatMap predE)) (hg : Blk w g 3 #[.int .i64 x0]) :
    Calls Tryz.prog 32 #[.slice A n c, .func (.func 33) #[] #[.pointer (some ⟨g, 0, none⟩)]] w fun e w' => e = .returned (.int .i64 (findI (isEnt x0) l)) ∧ Keeps w w' [] := by
  have HL := Lib.hid hl
  have HA := Lib.hid hA
  have HG := Lib.hid hg
  clear hl hA hg
  go_enter Tryz.func32, Tryz.ntmps32
  go_wp2_with fail
  go_loopw [8] (fun i wr => ∃ k : Nat, k ≤ n ∧ i = .int .i64 k ∧ Hid (∀ y ∈ l.take k, isEnt x0 y = false) ∧ Keeps w wr []) (fun i _ => n - (intOf i).toNat)
  case atStart => exact ⟨0, Nat.zero_le _, rfl, fun y hy => by simp at hy, Keeps.refl _ _⟩
  case round =>
    obtain ⟨k, hk, rfl, HB, kr⟩ := hrel
    have HK := Lib.hid kr
    clear kr
    by_cases hlt : k < n
    · obtain ⟨x, hx⟩ := at_of HL.out hlt
      obtain ⟨b, off, rfl, hb, hc⟩ := (HA.out).field predE_len hx (by omega)
      have HX := Lib.hid hx
      have q0 : wr.cell? ⟨b, off + k * 3, none⟩ = some (.string x.name) := (HK.out.cell0 hb).trans (hc 0 _ rfl)
      have q1 : wr.cell? ⟨b, off + k * 3 + 1, none⟩ = some (.int .i64 x.arity) := (HK.out.cell0 hb).trans (hc 1 _ rfl)
      have q2 : wr.cell? ⟨b, off + k * 3 + 2, none⟩ = some (.int .i64 x.entry) := (HK.out.cell0 hb).trans (hc 2 _ rfl)
      have HC := Lib.hid (ent1_any x0 x g wr (HG.out.keep HK.out (by simp)))
      clear hx hc
      have b0 : (0 : Int) ≤ (k : Int) := Int.natCast_nonneg _
      have b1 : (k : Int) < (n : Int) := by omega
      cases hp : isEnt x0 x with
      | true =>
        have HI : Hid (findI (isEnt x0) l = (k : Int)) := findI_some HX.out hp HB.out
        rw [hp] at HC
        clear hp
        go_wp2_with (go_at_call 33; refine HC.out.mono ?_; rintro e w' ⟨rfl, k2⟩)
        go_ret
        exact ⟨by rw [HI.out]; rfl, HK.out.trans k2⟩
      | false =>
        have HB2 : Hid (∀ y ∈ l.take (k + 1), isEnt x0 y = false) := take_snoc_all HX.out hp HB.out
        rw [hp] at HC
        clear hp
        go_wp2_with (go_at_call 33; refine HC.out.mono ?_; rintro e w' ⟨rfl, k2⟩)
        go_roundw
        case rel => exact ⟨k + 1, by omega, by go_num, HB2, HK.out.trans k2⟩
        case measure => simp [intOf]; omega
    · obtain rfl : n = k := by omega
      have HI : Hid (findI (isEnt x0) l = -1) := findI_none (by have := HB.out; rwa [List.take_of_length_le (by rw [HL.out]; omega)] at this)
      go_wp2_with fail
      go_ret
      exact ⟨by rw [HI.out]; rfl, HK.out⟩

theorem ent_find (o : LObj) (n : Nat) : (∃ (z : Nat) (p : LPred), o.preds[z]? = some p ∧ findI (isEnt n) o.preds = (z : Int) ∧ (o.preds.find? fun p => p.entry == (n : Int)) = some p) ∨ (findI (isEnt n) o.preds = -1 ∧ (o.preds.find? fun p => p.entry == (n : Int)) = none) := by
  have e : (fun p : LPred => p.entry == (n : Int)) = isEnt n := rfl
  rw [e, findI_idx]
  cases h : o.preds.findIdx? (isEnt n) with
  | some z =>
    left
    have h1 := List.findIdx?_eq_some_iff_getElem.1 h
    obtain ⟨hz, hp, hb⟩ := h1
    refine ⟨z, o.preds[z], List.getElem?_eq_getElem hz, rfl, ?_⟩
    rw [List.find?_eq_some_iff_getElem]
    exact ⟨hp, z, hz, rfl, fun j hj => by simpa using hb j hj⟩
  | none =>
    right
    refine ⟨rfl, ?_⟩
    rw [List.find?_eq_none]
    intro x hx
    have := List.findIdx?_eq_none_iff.1 h x hx
    simpa using this
theorem linesFrom_snoc (o : LObj) (i : LIns) : ∀ (l : List LIns) (n : Nat), linesFrom o n (l ++ [i]) = linesFrom o n l ++ lineT o (n + l.length) i
  | [], n => by simp [linesFrom]
  | x :: l, n => by
    rw [List.cons_append, linesFrom, linesFrom_snoc o i l (n + 1), linesFrom, List.append_assoc, List.length_cons, show n + 1 + l.length = n + (l.length + 1) by omega]
theorem lineT_few (o : LObj) (n : Nat) (i : LIns) : (lineT o n i).length ≤ 3 := by
  unfold lineT
  rw [List.length_append, List.length_append]
  split <;> split <;> simp
theorem linesFrom_few (o : LObj) : ∀ (l : List LIns) (n : Nat), (linesFrom o n l).length ≤ 3 * l.length
  | [], _ => Nat.le_refl _
  | i :: l, n => by
    have h1 := lineT_few o n i
    have h2 := linesFrom_few o l (n + 1)
    rw [linesFrom, List.length_append, List.length_cons]
    omega
/-- The lines of any object: none, where it may not be. -/
def linesE (o : LObj) : List Txt := if checkE o ≠ 0 then [] else linesT o
/-- What Lines hands back. -/
def LiDone (w : World) (l : List Txt) (e : Ending) (w' : World) : Prop := ∃ A c, e = .returned (.slice A l.length c) ∧ Rd w' A ((l.map stB).flatMap strE) ∧ Keeps w w' [] ∧ (A = none → c = 0)
/-- The lines so far. -/
structure LR (w2 wr : World) (OA : Option Addr) (no oc : Nat) (l : List Txt) : Prop where
  own : wr.ownsRow w2.heap.size 9 1 (.slice OA no oc) no ((l.map stB).flatMap strE)
  keep : Keeps w2 wr []
theorem LR.keep0 {w2 wr w3 : World} {OA : Option Addr} {no oc : Nat} {l : List Txt} (h : LR w2 wr OA no oc l) (k : Keeps wr w3 []) : LR w2 w3 OA no oc l := ⟨own_keep0 h.own k, h.keep.trans k⟩
/-- One more line. -/
theorem LR.app {w2 wr wa w3 : World} {OA A' : Option Addr} {no oc c' : Nat} {l : List Txt} {x : Txt} (h : LR w2 wr OA no oc l) (k : Keeps wr wa []) (ho : w3.ownsRow w2.heap.size 9 1 (.slice A' (no + 1) c') (no + 1) ((l.map stB).flatMap strE ++ strE (stB x))) (hg : wa.grownBy w3 (Value.slice OA no oc).ownBlock) : LR w2 w3 A' (no + 1) c' (l ++ [x]) := by
  refine ⟨?_, (h.keep.trans k).app (own_keep0 h.own k) (Nat.le_refl _) hg⟩
  rw [List.map_append, List.flatMap_append]
  simpa using ho
/-- A box of another type stays. -/
theorem LR.box {w2 wr wa w3 : World} {OA : Option Addr} {no oc : Nat} {l : List Txt} {g : Nat} {t : TypeId} {cs : Array Value} (h : LR w2 wr OA no oc l) (k : Keeps wr wa []) (hg : wa.grownBy w3 (Value.slice OA no oc).ownBlock) (hb : Blk wr g t cs) (hne : t ≠ 9) : Blk w3 g t cs := blk_far (hb.keep k (by simp)) (own_keep0 h.own k) hne hg
theorem LR.len {w2 wr : World} {OA : Option Addr} {no oc : Nat} {l : List Txt} (h : LR w2 wr OA no oc l) : l.length = no := by
  have := h.own.1
  rw [length_flat strE_len, List.length_map] at this
  omega
set_option maxRecDepth 100000 in
set_option maxHeartbeats 12800000 in
theorem linesA_any (o : LObj) (Aa Af Ap Ac : Option Addr) (na nf np nc ca cf cp cc : Nat) (w : World) (hob : ObIs w o Aa Af Ap Ac ca cf cp cc) (hfit : Fits o) (la : o.atoms.length = na) (lf : o.funs.length = nf) (lp : o.preds.length = np) (lc : o.code.length = nc) (h : St w) :
    Calls Tryz.prog 14 #[.agg #[.slice Aa na ca, .slice Af nf cf, .slice Ap np cp, .slice Ac nc cc]] w (LiDone w (linesE o)) := by
  have k0 : Keeps w (w.alloc (.cells #[.slice Aa na ca, .slice Af nf cf, .slice Ap np cp, .slice Ac nc cc] 31)) [] := (Keeps.refl w []).alloc _
  have HOb : Hid (Blk (w.alloc (.cells #[.slice Aa na ca, .slice Af nf cf, .slice Ap np cp, .slice Ac nc cc] 31)) w.heap.size 31 #[.slice Aa na ca, .slice Af nf cf, .slice Ap np cp, .slice Ac nc cc]) := Blk.new _ _ _
  have HCk := Lib.hid (check_any o Aa Af Ap Ac na nf np nc ca cf cp cc (w.alloc (.cells #[.slice Aa na ca, .slice Af nf cf, .slice Ap np cp, .slice Ac nc cc] 31)) (hob.keep k0) hfit la lf lp lc)
  have HK0 := Lib.hid k0
  have HS := Lib.hid h
  have HO := Lib.hid hob
  have HFit := Lib.hid hfit
  have HLa := Lib.hid la
  have HLf := Lib.hid lf
  have HLp := Lib.hid lp
  have HLc := Lib.hid lc
  have o0 := HOb.out.cell 0
  have o1 := HOb.out.cell 1
  have o2 := HOb.out.cell 2
  have o3 := HOb.out.cell 3
  unfold ErrTold at HCk
  have HLE : Hid (linesE o = if checkE o ≠ 0 then [] else linesT o) := rfl
  have HOk := Lib.hid (@check_ok o)
  generalize checkE o = ck at *
  clear k0 h hob hfit la lf lp lc
  go_enter Tryz.func14, Tryz.ntmps14
  go_wp2_with fail
  generalize w.alloc (.cells #[.slice Aa na ca, .slice Af nf cf, .slice Ap np cp, .slice Ac nc cc] 31) = w0 at *
  refine HCk.out.mono ?_
  rintro e w1 ⟨rfl, k1⟩
  have HK1 := Lib.hid (HK0.out.trans k1)
  have HB1 := Lib.hid (HOb.out.keep k1 (by simp))
  clear k1 o0 o1 o2 o3 HCk HK0 HOb
  by_cases hck : ck = 0
  case neg =>
    have d0 : (ck == 0) = false := by simpa using hck
    have d1 : (ck != 0) = true := by simpa using hck
    have HV := Lib.hid (HLE.out.trans (if_pos hck))
    clear hck
    go_wp2_with fail
    go_ret
    rw [HV.out]
    exact ⟨none, 0, rfl, Rd.nil, HK1.out, fun _ => rfl⟩
  have HObj := Lib.hid (HOk.out hck)
  have HLE2 : Hid (linesE o = linesT o) := HLE.out.trans (if_neg (by simp [hck]))
  subst hck
  have HTg0 := Lib.hid (targets9_any o (fun i hi => (HObj.out.ins hi).1) Aa Af Ap Ac na nf np nc ca cf cp cc w1 (HO.out.keep HK1.out) HFit.out HLc.out)
  have o0 := HB1.out.cell 0
  have o1 := HB1.out.cell 1
  have o2 := HB1.out.cell 2
  have o3 := HB1.out.cell 3
  clear HLE HOk w0
  go_wp2_with fail
  refine HTg0.out.mono ?_
  rintro e w2 ⟨mb, mn, rfl, hsm, hmb, k2⟩
  have HSm := Lib.hid hsm
  have HK02 := Lib.hid (HK1.out.trans k2)
  have HB2 := Lib.hid (HB1.out.keep k2 (by simp))
  have HO2 := Lib.hid (HO.out.keep HK02.out)
  have hnc : nc ≤ 65536 := by have := HFit.out.code; have := HLc.out; omega
  have o3 := HB2.out.cell 3
  have HTxt : Hid (∀ (i : LIns), i ∈ o.code → ∀ W, Keeps w2 W [] → Calls Tryz.prog 36 #[.agg #[.slice Aa na ca, .slice Af nf cf, .slice Ap np cp, .slice Ac nc cc], .agg #[.int .i64 i.op, .int .i64 i.a0, .int .i64 i.a1, .int .i64 i.a2, .int .i64 i.a3]] W fun e w' => e = .returned (.string (stB (textT o i))) ∧ Keeps W w' []) := fun i hi W kk => by
    have hins := HObj.out.ins hi
    exact text9_any o i hins.1 hins.2 Aa Af Ap Ac na nf np nc ca cf cp cc W (HO2.out.keep kk) HFit.out HLa.out HLf.out HLp.out (HS.out.keep (HK02.out.trans kk))
  have HNp : Hid (np ≤ 65536) := Lib.hid (by have := HFit.out.preds; have := HLp.out; omega)
  have H0 : Hid (LR w2 w2 none 0 0 []) := ⟨⟨by simp, .inl ⟨rfl, rfl⟩⟩, Keeps.refl _ _⟩
  have hmf : ∀ (fn : Fn) (first cap : Array Value) (w : World), (Instr.makeFunc fn first cap).run Tryz.prog w = .ok (.func fn first cap) w := fun _ _ _ _ => rfl
  clear hsm hmb k2 o0 o1 o2 HTg0 HB1 HK1
  go_wp2_with fail
  clear o3
  go_loopw [4, 5, 6, 7, 16] (fun v4 v5 v6 v7 ix wr => ∃ k : Nat, k ≤ nc ∧ ix = .int .i64 k ∧ ∃ OA no oc, v4 = .slice OA no oc ∧ no ≤ 3 * k ∧ LR w2 wr OA no oc (linesFrom o 0 (o.code.take k))) (fun _ _ _ _ ix _ => nc - (intOf ix).toNat)
  case atStart => exact ⟨0, Nat.zero_le _, rfl, none, 0, 0, rfl, Nat.zero_le _, H0.out⟩
  case round =>
    clear H0
    obtain ⟨k, hk, rfl, OA, no, oc, rfl, hno, hlr⟩ := hrel
    have HR := Lib.hid hlr
    have HNo := Lib.hid hno
    clear hlr hno
    by_cases hlk : k < nc
    · obtain ⟨i, hi⟩ := at_of HLc.out hlk
      obtain ⟨b, off, e1, hb, hc⟩ := HO2.out.code.field insE_len hi (by omega)
      subst e1
      have p0 : wr.cell? ⟨b, off + k * 5, none⟩ = some (.int .i64 i.op) := (HR.out.keep.cell0 hb).trans (hc 0 _ rfl)
      have p1 : wr.cell? ⟨b, off + k * 5 + 1, none⟩ = some (.int .i64 i.a0) := (HR.out.keep.cell0 hb).trans (hc 1 _ rfl)
      have p2 : wr.cell? ⟨b, off + k * 5 + 2, none⟩ = some (.int .i64 i.a1) := (HR.out.keep.cell0 hb).trans (hc 2 _ rfl)
      have p3 : wr.cell? ⟨b, off + k * 5 + 3, none⟩ = some (.int .i64 i.a2) := (HR.out.keep.cell0 hb).trans (hc 3 _ rfl)
      have p4 : wr.cell? ⟨b, off + k * 5 + 4, none⟩ = some (.int .i64 i.a3) := (HR.out.keep.cell0 hb).trans (hc 4 _ rfl)
      have HTxt2 := Lib.hid (HTxt.out i (List.mem_of_getElem? hi))
      have HSn : Hid (linesFrom o 0 (o.code.take (k + 1)) = linesFrom o 0 (o.code.take k) ++ lineT o k i) := Lib.hid (by
        rw [take_snocA hi, linesFrom_snoc, List.length_take, HLc.out, Nat.zero_add, Nat.min_eq_left hk])
      generalize linesFrom o 0 (o.code.take k) = ls at *
      have b1' : (k : Int) < (nc : Int) := by omega
      have b0 : (0 : Int) ≤ (k : Int) := Int.natCast_nonneg _
      have K3 : Keeps wr ((wr.alloc (.cells #[.int .i64 k] 3)).alloc (.cells #[.int .i64 i.op, .int .i64 i.a0, .int .i64 i.a1, .int .i64 i.a2, .int .i64 i.a3] 79)) [] := ((Keeps.refl wr []).alloc _).alloc _
      have HAt3 : Hid (Blk ((wr.alloc (.cells #[.int .i64 k] 3)).alloc (.cells #[.int .i64 i.op, .int .i64 i.a0, .int .i64 i.a1, .int .i64 i.a2, .int .i64 i.a3] 79)) wr.heap.size 3 #[.int .i64 k]) := (Blk.new _ _ _).alloc _
      have HIn3 : Hid (Blk ((wr.alloc (.cells #[.int .i64 k] 3)).alloc (.cells #[.int .i64 i.op, .int .i64 i.a0, .int .i64 i.a1, .int .i64 i.a2, .int .i64 i.a3] 79)) (wr.heap.size + 1) 79 #[.int .i64 i.op, .int .i64 i.a0, .int .i64 i.a1, .int .i64 i.a2, .int .i64 i.a3]) := Blk.newAt _ _ (by simp)
      have HR3 := Lib.hid (HR.out.keep0 K3)
      have hob2 := (HB2.out.keep HR3.out.keep (by simp)).cell 2
      have HIx := Lib.hid (entIdx_any Ap np cp o.preds (k : Int) wr.heap.size ((wr.alloc (.cells #[.int .i64 k] 3)).alloc (.cells #[.int .i64 i.op, .int .i64 i.a0, .int .i64 i.a1, .int .i64 i.a2, .int .i64 i.a3] 79)) HLp.out HNp.out (HO2.out.keep HR3.out.keep).preds HAt3.out)
      have hf := ent_find o k
      clear hi hb hc K3 HTxt
      go_upto_region 8 with fail
      generalize (wr.alloc (.cells #[.int .i64 k] 3)).alloc (.cells #[.int .i64 i.op, .int .i64 i.a0, .int .i64 i.a1, .int .i64 i.a2, .int .i64 i.a3] 79) = w3 at *
      clear p0 p1 p2 p3 p4 HR
      have HTxt := HTxt2
      rcases hf with hf | hf
      · skip
        obtain ⟨z, p, hz, hfi, hfd⟩ := hf
        rw [hfi] at HIx
        have HFd := Lib.hid hfd
        have hpo := HObj.out.preds p (List.mem_of_getElem? hz)
        simp only [predOk, Bool.and_eq_true, decide_eq_true_eq] at hpo
        obtain ⟨ar, har⟩ := Int.eq_ofNat_of_zero_le (show 0 ≤ p.arity by omega)
        obtain ⟨b1, o1, e1, hb1, hc1⟩ := HO2.out.preds.field predE_len hz (by omega)
        subst e1
        have f0 : w2.cell? ⟨b1, o1 + z * 3, none⟩ = some (.string p.name) := hc1 0 _ rfl
        have f1 : w2.cell? ⟨b1, o1 + z * 3 + 1, none⟩ = some (.int .i64 p.arity) := hc1 1 _ rfl
        rw [har] at f1
        have hzn : z < np := by have := (List.getElem?_eq_some_iff.1 hz).1; have := HLp.out; omega
        have c5 : (z : Int) < (np : Int) := by omega
        have c6 : (0 : Int) ≤ (z : Int) := Int.natCast_nonneg _
        have HF10 : Hid (∀ W, Keeps w2 W [] → W.cell? ⟨w.heap.size, 2, none⟩ = some (.slice (some ⟨b1, o1, none⟩) np cp) ∧ W.cell? ⟨b1, o1 + z * 3, none⟩ = some (.string p.name) ∧ W.cell? ⟨b1, o1 + z * 3 + 1, none⟩ = some (.int .i64 ar)) := fun W kk => ⟨(HB2.out.keep kk (by simp)).cell 2, (kk.cell0 (block_lt_of_cell f0)).trans f0, (kk.cell0 (block_lt_of_cell f1)).trans f1⟩
        have HX : Hid (stB (predW ++ 32 :: slT ⟨p.name, p.arity⟩) = (⟨#[112, 114, 101, 100, 32]⟩ : ByteArray) ++ stB (slT ⟨p.name, ar⟩)) := Lib.hid (by
          rw [har, show (⟨#[112, 114, 101, 100, 32]⟩ : ByteArray) = stB [112, 114, 101, 100, 32] from rfl, stB_app]
          rfl)
        have hxs : (stB (slT ⟨p.name, ar⟩)).size ≤ 40 := by rw [stB_size]; exact slT_len (f := ⟨p.name, ar⟩) hpo.1 (by simp only; omega)
        have hadd : ∀ w : World, (Op.stringOp .add (⟨#[112, 114, 101, 100, 32]⟩ : ByteArray) (stB (slT ⟨p.name, ar⟩))).run Tryz.prog w = .ok (.string ((⟨#[112, 114, 101, 100, 32]⟩ : ByteArray) ++ stB (slT ⟨p.name, ar⟩))) w := fun w => run_string_add_sum (P := Tryz.prog) w _ _ (by
          have : (⟨#[112, 114, 101, 100, 32]⟩ : ByteArray).size = 5 := rfl
          omega)
        have HNm : Hid (∀ W, Keeps w W [] → _) := fun W (kk : Keeps w W []) => name9_any p.name ar (Nat.le_trans (nameOk_size hpo.1) (by omega)) (by omega) W (HS.out.keep kk).tab
        have HLT : Hid (lineT o k i = [predW ++ 32 :: slT ⟨p.name, p.arity⟩] ++ ((if targetB o k then [64 :: Lib.decDigits k] else []) ++ [textT o i])) := Lib.hid (by unfold lineT; rw [hfd])
        clear hz hfi hfd hpo hb1 hc1 f0 f1 har hzn hxs HFd
        generalize stB (slT ⟨p.name, ar⟩) = nmS at *
        generalize predW ++ 32 :: slT ⟨p.name, p.arity⟩ = lnP at *
        go_wp2_with fail
        refine HIx.out.mono ?_
        rintro e w4 ⟨rfl, k4⟩
        have HR4 := Lib.hid (HR3.out.keep0 k4)
        have HA4 := Lib.hid (HAt3.out.keep k4 (by simp))
        have HI4 := Lib.hid (HIn3.out.keep k4 (by simp))
        clear k4 HIx
        have HNm4 := Lib.hid (HNm.out w4.drew (HK02.out.trans HR4.out.keep).drew)
        clear HNm
        go_upto_region 10 with fail
        refine wp_region_tx (fun W' => W'.cell? ⟨w.heap.size, 2, none⟩ = some (.slice (some ⟨b1, o1, none⟩) np cp) ∧ W'.cell? ⟨b1, o1 + z * 3, none⟩ = some (.string p.name) ∧ W'.cell? ⟨b1, o1 + z * 3 + 1, none⟩ = some (.int .i64 ar)) [(0, true), (1, true), (2, true), (3, true), (4, true), (5, true), (6, true), (7, true), (8, true), (9, true), (10, true), (11, true), (12, true), (13, false), (14, true), (15, false), (16, false), (17, false)] (by kernel_rfl) (by kernel_rfl) (HF10.out _ HR4.out.keep.drew) (fun hHeld => ?_)
        (repeat (first | (refine wpTx_take (v := ?_) rfl (by assumption) ?_ (by rfl) ?_; rotate_left; (focus (intro w' hSw; (try dsimp only at hSw); go_simp; (try with_reducible rfl); done)); simp only [Act.put, List.setIfInBounds_toArray, List.set_cons_zero, List.set_cons_succ]) | (refine wpTx_skip rfl (by assumption) (by rfl) ?_; simp only [Act.put, List.setIfInBounds_toArray, List.set_cons_zero, List.set_cons_succ])))
        refine wpTx_go rfl (fun K hK => ?_)
        go_simp
        refine HNm4.out.mono ?_
        rintro e w5 ⟨rfl, k5'⟩
        have HK5 : Hid (Keeps w4 w5 []) := (Keeps.refl w4 []).drew.trans k5'
        have HFw := Lib.hid (HF10.out w5 (HR4.out.keep.trans HK5.out))
        clear k5'
        refine hK.out _ _ ?_ ?_
        · exact HFw.out
        (clear hHeld; intro hHeld; clear hK K; (try simp only [Act.put, List.setIfInBounds_toArray, List.set_cons_zero, List.set_cons_succ]))
        (repeat (first | (refine wpTx_take (v := ?_) rfl (by assumption) ?_ (by rfl) ?_; rotate_left; (focus (intro w' hSw; (try dsimp only at hSw); go_simp; (try with_reducible rfl); done)); simp only [Act.put, List.setIfInBounds_toArray, List.set_cons_zero, List.set_cons_succ]) | (refine wpTx_skip rfl (by assumption) (by rfl) ?_; simp only [Act.put, List.setIfInBounds_toArray, List.set_cons_zero, List.set_cons_succ])))
        refine wpTx_go rfl (fun K hK => ?_)
        go_simp
        refine hK.out _ _ ?_ ?_
        · exact HF10.out _ ((HR4.out.keep.trans HK5.out).alloc _)
        (clear hHeld; intro hHeld; clear hK K; (try simp only [Act.put, List.setIfInBounds_toArray, List.set_cons_zero, List.set_cons_succ]))
        refine wpTx_go rfl (fun K hK => ?_)
        have K6 : Keeps w4 (w5.alloc (.cells #[.string ((⟨#[112, 114, 101, 100, 32]⟩ : ByteArray) ++ nmS)] 9)) [] := HK5.out.alloc _
        refine step_app _ el_atomA (by rfl) _ _ (by rfl) w2.heap.size OA no oc ((ls.map stB).flatMap strE) (by rfl) (own_keep0 HR4.out.own K6) (some ⟨w5.heap.size, 0, none⟩) 1 1 (strE ((⟨#[112, 114, 101, 100, 32]⟩ : ByteArray) ++ nmS)) (by rfl) (Rd.one w5 _ (strE ((⟨#[112, 114, 101, 100, 32]⟩ : ByteArray) ++ nmS))) rfl (by simp) (by simp [strE, Value.oneCell']) (by have := HNo.out; omega) (Nat.le_trans HR4.out.keep.size K6.size) ?_
        intro A' c' w6 hown hgrow _
        have HR6 : Hid (LR w2 w6 A' (no + 1) c' (ls ++ [lnP])) := Lib.hid (HR4.out.app K6 (by rw [HX.out]; exact hown) hgrow)
        have HA6 := Lib.hid (HR4.out.box K6 hgrow HA4.out (by decide))
        have HI6 := Lib.hid (HR4.out.box K6 hgrow HI4.out (by decide))
        have HFx := Lib.hid (HF10.out w6 HR6.out.keep)
        clear hown hgrow K6
        refine hK.out _ _ ?_ ?_
        · exact HFx.out
        (clear hHeld; intro hHeld; clear hK K; (try simp only [Act.put, List.setIfInBounds_toArray, List.set_cons_zero, List.set_cons_succ]))
        refine wpTx_last rfl (fun K hK => ?_)
        go_simp
        refine hK.out _ _ (NoPanic.normal ?_); clear hK K; (try simp only [Act.put, List.setIfInBounds_toArray, List.set_cons_zero, List.set_cons_succ])
        clear hHeld HF10 HFw HFx HR4 HA4 HI4 HK5 HNm4
        have HN6 : Hid (no + 1 ≤ 3 * k + 1) := Lib.hid (by have := HNo.out; omega)
        generalize hn6 : no + 1 = n6 at *
        generalize hl6 : ls ++ [lnP] = l6 at *
        have HLT6 : Hid (ls ++ lineT o k i = l6 ++ ((if targetB o k then [64 :: Lib.decDigits k] else []) ++ [textT o i])) := Lib.hid (by rw [HLT.out, ← hl6, List.append_assoc])
        clear hn6 hl6 HLT HNo HX
        have a0 := HA6.out.cell 0
        have hlk := (HSm.out.kept HR6.out.keep (by simp)).look (x := (k : Int)) ⟨by omega, by omega⟩
        have HTg := Lib.hid (target_is o k)
        cases htb : decide ((k : Int) ∈ tgL o.code) with
        | true =>
          rw [htb] at hlk HTg
          have HLT7 : Hid (linesFrom o 0 (o.code.take (k + 1)) = l6 ++ [64 :: Lib.decDigits k] ++ [textT o i]) := Lib.hid (by rw [HSn.out, HLT6.out, HTg.out, if_pos rfl]; simp)
          have HIt := Lib.hid (itoa_any k (by omega) w6 (HS.out.keep (HK02.out.trans HR6.out.keep)).tab)
          have ha := txt_at k (by omega)
          clear htb
          go_wp2_with fail
          refine HIt.out.mono ?_
          rintro e w7 ⟨rfl, k7⟩
          have HK7 := Lib.hid k7
          clear k7 hlk a0 HIt
          go_upto_region 13 with (at_builtin; have K7 := HK7.out.alloc (.cells #[.string (stB (64 :: Lib.decDigits k))] 9); refine wpList_app _ el_atomA rfl (.tmp 47) (.tmp 51) rfl w2.heap.size A' n6 c' ((l6.map stB).flatMap strE) rfl (own_keep0 HR6.out.own K7) (some ⟨w7.heap.size, 0, none⟩) 1 1 (strE (stB (64 :: Lib.decDigits k))) rfl (Rd.one w7 _ (strE (stB (64 :: Lib.decDigits k)))) rfl (by simp) (by simp [strE, Value.oneCell']) (by have := HN6.out; omega) (Nat.le_trans HR6.out.keep.size K7.size) ?_; intro A8 c8 w8' hown hgrow _; have HR8 := Lib.hid (HR6.out.app K7 hown hgrow); have HI8 := Lib.hid (HR6.out.box K7 hgrow HI6.out (by decide)); clear hown hgrow K7)
          have HNL : Hid (n6 + 1 ≤ 3 * k + 2) := Lib.hid (by have := HN6.out; omega)
          have HLs := Lib.hid HLT7.out
          clear HLT7 HLT6 ha
          have HB7 := Lib.hid (HB2.out.keep HR8.out.keep (by simp))
          have o0 := HB7.out.cell 0
          have o1 := HB7.out.cell 1
          have o2 := HB7.out.cell 2
          have o3 := HB7.out.cell 3
          have i0 := HI8.out.cell 0
          have i1 := HI8.out.cell 1
          have i2 := HI8.out.cell 2
          have i3 := HI8.out.cell 3
          have i4 := HI8.out.cell 4
          have HTx := Lib.hid (HTxt.out w8' HR8.out.keep)
          go_wp2_with fail
          refine HTx.out.mono ?_
          rintro e w8 ⟨rfl, k8⟩
          have HK8 := Lib.hid k8
          clear k8 o0 o1 o2 o3 i0 i1 i2 i3 i4
          go_wp2_with (at_builtin; have K9 := HK8.out.alloc (.cells #[.string (stB (textT o i))] 9); refine wpList_app _ el_atomA rfl (.tmp 53) (.tmp 57) rfl w2.heap.size A8 (n6 + 1) c8 (((l6 ++ [64 :: Lib.decDigits k]).map stB).flatMap strE) rfl (own_keep0 HR8.out.own K9) (some ⟨w8.heap.size, 0, none⟩) 1 1 (strE (stB (textT o i))) rfl (Rd.one w8 _ (strE (stB (textT o i)))) rfl (by simp) (by simp [strE, Value.oneCell']) (by have := HNL.out; omega) (Nat.le_trans HR8.out.keep.size K9.size) ?_; intro A9 c9 w9 hown hgrow _; have HR9 := Lib.hid (HR8.out.app K9 hown hgrow); clear hown hgrow K9)
          go_roundw
          case rel => exact ⟨k + 1, by omega, by go_num, A9, (n6 + 1) + 1, c9, by rfl, by have := HNL.out; omega, by rw [HLs.out]; exact HR9.out⟩
          case measure => simp [intOf]; omega
        | false =>
          rw [htb] at hlk HTg
          have HLs : Hid (linesFrom o 0 (o.code.take (k + 1)) = l6 ++ [textT o i]) := Lib.hid (by rw [HSn.out, HLT6.out, HTg.out, if_neg Bool.false_ne_true]; simp)
          have HNL : Hid (n6 ≤ 3 * k + 2) := Lib.hid (by have := HN6.out; omega)
          clear htb
          have HB7 := Lib.hid (HB2.out.keep HR6.out.keep (by simp))
          have o0 := HB7.out.cell 0
          have o1 := HB7.out.cell 1
          have o2 := HB7.out.cell 2
          have o3 := HB7.out.cell 3
          have i0 := HI6.out.cell 0
          have i1 := HI6.out.cell 1
          have i2 := HI6.out.cell 2
          have i3 := HI6.out.cell 3
          have i4 := HI6.out.cell 4
          have HTx := Lib.hid (HTxt.out w6 HR6.out.keep)
          go_wp2_with fail
          refine HTx.out.mono ?_
          rintro e w8 ⟨rfl, k8⟩
          have HK8 := Lib.hid k8
          clear k8 o0 o1 o2 o3 i0 i1 i2 i3 i4
          go_wp2_with (at_builtin; have K9 := HK8.out.alloc (.cells #[.string (stB (textT o i))] 9); refine wpList_app _ el_atomA rfl (.tmp 53) (.tmp 57) rfl w2.heap.size A' n6 c' ((l6.map stB).flatMap strE) rfl (own_keep0 HR6.out.own K9) (some ⟨w8.heap.size, 0, none⟩) 1 1 (strE (stB (textT o i))) rfl (Rd.one w8 _ (strE (stB (textT o i)))) rfl (by simp) (by simp [strE, Value.oneCell']) (by have := HNL.out; omega) (Nat.le_trans HR6.out.keep.size K9.size) ?_; intro A9 c9 w9 hown hgrow _; have HR9 := Lib.hid (HR6.out.app K9 hown hgrow); clear hown hgrow K9)
          go_roundw
          case rel => exact ⟨k + 1, by omega, by go_num, A9, n6 + 1, c9, by rfl, by have := HNL.out; omega, by rw [HLs.out]; exact HR9.out⟩
          case measure => simp [intOf]; omega
      · skip
        obtain ⟨hfi, hfd⟩ := hf
        rw [hfi] at HIx
        have HLT6 : Hid (ls ++ lineT o k i = ls ++ ((if targetB o k then [64 :: Lib.decDigits k] else []) ++ [textT o i])) := Lib.hid (by unfold lineT; rw [hfd]; rfl)
        have HN6 : Hid (no ≤ 3 * k + 1) := Lib.hid (by have := HNo.out; omega)
        clear hfi hfd
        go_wp2_with fail
        refine HIx.out.mono ?_
        rintro e w4 ⟨rfl, k4⟩
        have HR4 := Lib.hid (HR3.out.keep0 k4)
        have HA4 := Lib.hid (HAt3.out.keep k4 (by simp))
        have HI4 := Lib.hid (HIn3.out.keep k4 (by simp))
        clear k4 HIx
        have a0 := HA4.out.cell 0
        have hlk := (HSm.out.kept HR4.out.keep (by simp)).look (x := (k : Int)) ⟨by omega, by omega⟩
        have HTg := Lib.hid (target_is o k)
        cases htb : decide ((k : Int) ∈ tgL o.code) with
        | true =>
          rw [htb] at hlk HTg
          have HLT7 : Hid (linesFrom o 0 (o.code.take (k + 1)) = ls ++ [64 :: Lib.decDigits k] ++ [textT o i]) := Lib.hid (by rw [HSn.out, HLT6.out, HTg.out, if_pos rfl]; simp)
          have HIt := Lib.hid (itoa_any k (by omega) w4 (HS.out.keep (HK02.out.trans HR4.out.keep)).tab)
          have ha := txt_at k (by omega)
          clear htb
          go_wp2_with fail
          refine HIt.out.mono ?_
          rintro e w7 ⟨rfl, k7⟩
          have HK7 := Lib.hid k7
          clear k7 hlk a0 HIt
          go_upto_region 13 with (at_builtin; have K7 := HK7.out.alloc (.cells #[.string (stB (64 :: Lib.decDigits k))] 9); refine wpList_app _ el_atomA rfl (.tmp 47) (.tmp 51) rfl w2.heap.size OA no oc ((ls.map stB).flatMap strE) rfl (own_keep0 HR4.out.own K7) (some ⟨w7.heap.size, 0, none⟩) 1 1 (strE (stB (64 :: Lib.decDigits k))) rfl (Rd.one w7 _ (strE (stB (64 :: Lib.decDigits k)))) rfl (by simp) (by simp [strE, Value.oneCell']) (by have := HN6.out; omega) (Nat.le_trans HR4.out.keep.size K7.size) ?_; intro A8 c8 w8' hown hgrow _; have HR8 := Lib.hid (HR4.out.app K7 hown hgrow); have HI8 := Lib.hid (HR4.out.box K7 hgrow HI4.out (by decide)); clear hown hgrow K7)
          have HNL : Hid (no + 1 ≤ 3 * k + 2) := Lib.hid (by have := HN6.out; omega)
          have HLs := Lib.hid HLT7.out
          clear HLT7 HLT6 ha
          have HB7 := Lib.hid (HB2.out.keep HR8.out.keep (by simp))
          have o0 := HB7.out.cell 0
          have o1 := HB7.out.cell 1
          have o2 := HB7.out.cell 2
          have o3 := HB7.out.cell 3
          have i0 := HI8.out.cell 0
          have i1 := HI8.out.cell 1
          have i2 := HI8.out.cell 2
          have i3 := HI8.out.cell 3
          have i4 := HI8.out.cell 4
          have HTx := Lib.hid (HTxt.out w8' HR8.out.keep)
          go_wp2_with fail
          refine HTx.out.mono ?_
          rintro e w8 ⟨rfl, k8⟩
          have HK8 := Lib.hid k8
          clear k8 o0 o1 o2 o3 i0 i1 i2 i3 i4
          go_wp2_with (at_builtin; have K9 := HK8.out.alloc (.cells #[.string (stB (textT o i))] 9); refine wpList_app _ el_atomA rfl (.tmp 53) (.tmp 57) rfl w2.heap.size A8 (no + 1) c8 (((ls ++ [64 :: Lib.decDigits k]).map stB).flatMap strE) rfl (own_keep0 HR8.out.own K9) (some ⟨w8.heap.size, 0, none⟩) 1 1 (strE (stB (textT o i))) rfl (Rd.one w8 _ (strE (stB (textT o i)))) rfl (by simp) (by simp [strE, Value.oneCell']) (by have := HNL.out; omega) (Nat.le_trans HR8.out.keep.size K9.size) ?_; intro A9 c9 w9 hown hgrow _; have HR9 := Lib.hid (HR8.out.app K9 hown hgrow); clear hown hgrow K9)
          go_roundw
          case rel => exact ⟨k + 1, by omega, by go_num, A9, (no + 1) + 1, c9, by rfl, by have := HNL.out; omega, by rw [HLs.out]; exact HR9.out⟩
          case measure => simp [intOf]; omega
        | false =>
          rw [htb] at hlk HTg
          have HLs : Hid (linesFrom o 0 (o.code.take (k + 1)) = ls ++ [textT o i]) := Lib.hid (by rw [HSn.out, HLT6.out, HTg.out, if_neg Bool.false_ne_true]; simp)
          have HNL : Hid (no ≤ 3 * k + 2) := Lib.hid (by have := HN6.out; omega)
          clear htb
          have HB7 := Lib.hid (HB2.out.keep HR4.out.keep (by simp))
          have o0 := HB7.out.cell 0
          have o1 := HB7.out.cell 1
          have o2 := HB7.out.cell 2
          have o3 := HB7.out.cell 3
          have i0 := HI4.out.cell 0
          have i1 := HI4.out.cell 1
          have i2 := HI4.out.cell 2
          have i3 := HI4.out.cell 3
          have i4 := HI4.out.cell 4
          have HTx := Lib.hid (HTxt.out w4 HR4.out.keep)
          go_wp2_with fail
          refine HTx.out.mono ?_
          rintro e w8 ⟨rfl, k8⟩
          have HK8 := Lib.hid k8
          clear k8 o0 o1 o2 o3 i0 i1 i2 i3 i4
          go_wp2_with (at_builtin; have K9 := HK8.out.alloc (.cells #[.string (stB (textT o i))] 9); refine wpList_app _ el_atomA rfl (.tmp 53) (.tmp 57) rfl w2.heap.size OA no oc ((ls.map stB).flatMap strE) rfl (own_keep0 HR4.out.own K9) (some ⟨w8.heap.size, 0, none⟩) 1 1 (strE (stB (textT o i))) rfl (Rd.one w8 _ (strE (stB (textT o i)))) rfl (by simp) (by simp [strE, Value.oneCell']) (by have := HNL.out; omega) (Nat.le_trans HR4.out.keep.size K9.size) ?_; intro A9 c9 w9 hown hgrow _; have HR9 := Lib.hid (HR4.out.app K9 hown hgrow); clear hown hgrow K9)
          go_roundw
          case rel => exact ⟨k + 1, by omega, by go_num, A9, no + 1, c9, by rfl, by have := HNL.out; omega, by rw [HLs.out]; exact HR9.out⟩
          case measure => simp [intOf]; omega
    · obtain rfl : nc = k := by omega
      have HV : Hid (linesFrom o 0 (o.code.take nc) = linesE o) := Lib.hid (by rw [List.take_of_length_le (by rw [HLc.out]; exact Nat.le_refl _), HLE2.out]; rfl)
      rw [HV.out] at HR
      have HLn := Lib.hid HR.out.len
      go_wp2_with fail
      go_ret
      refine ⟨OA, oc, by rw [HLn.out]; rfl, Rd.of_own HR.out.own, HK02.out.trans HR.out.keep, fun e => by have := HR.out.own; rw [e] at this; exact own_nilA this⟩
end Go.Proofs.YtpcihhdalofdiaaGreatDoor

/- An instruction as a line: the document's text. Printed by gen_asrtext.py. -/
namespace Go.Proofs.YtpcihhdalofdiaaGreatDoor
open Go.RowKit Go.Maps

theorem joinT_snocA : ∀ (l : List Txt) (x : Txt), l ≠ [] → joinT (l ++ [x]) = joinT l ++ 32 :: x
  | [], _, h => absurd rfl h
  | [a], x, _ => rfl
  | a :: b :: l, x, _ => by
    have ih := joinT_snocA (b :: l) x (by simp)
    rw [List.cons_append, List.cons_append, joinT]
    rw [List.cons_append] at ih
    rw [ih, joinT]
    simp
attribute [local irreducible] numT kindsOf nameOf checkE fitsP operandP plainP labelP slashP namedT programP insTxt wordsOf tgI tgL textT bigB wordT wordsT opTxt
/-- The line so far. -/
def preT (o : LObj) (i : LIns) (j : Nat) : Txt := joinT ((wordsT o i).take (j + 1))
theorem preT_zero (o : LObj) (i : LIns) : preT o i 0 = nameT i.op := by
  unfold preT
  have h1 : (wordsT o i).take 1 = [nameT i.op] := by unfold wordsT; rfl
  rw [Nat.zero_add, h1]
  rfl
theorem preT_succ {o : LObj} {i : LIns} {j q : Nat} (hy : (kindsOf i.op)[j]? = some (q : Int)) : preT o i (j + 1) = preT o i j ++ 32 :: wordT o q (i.arg j) := by
  unfold preT
  rw [take_snocA (wordsT_at hy)]
  refine joinT_snocA _ _ (fun h => ?_)
  have h1 := congrArg List.length h
  rw [List.length_take, wordsT_len] at h1
  simp at h1
theorem preT_end (o : LObj) (i : LIns) {m : Nat} (hm : (kindsOf i.op).length = m) : preT o i m = textT o i := by
  unfold preT
  rw [textT_is, List.take_of_length_le (by rw [wordsT_len, hm]; exact Nat.le_refl _)]
theorem preT_len {o : LObj} {i : LIns} (hok : insOk i = true) (h : ∀ (j q : Nat), (kindsOf i.op)[j]? = some (q : Int) → ArgOk o q (i.arg j)) (j : Nat) : (preT o i j).length ≤ 1000 := by
  unfold preT
  have h2 := joinT_len ((wordsT o i).take (j + 1)) (fun w hw => wordsT_few hok h w (List.mem_of_mem_take hw))
  have h3 := wordsT_len o i
  have h4 := kinds_few i.op
  have h5 : ((wordsT o i).take (j + 1)).length ≤ 5 := by rw [List.length_take]; omega
  have := Nat.mul_le_mul_right (40 + 1) h5
  omega
theorem add_ok {a b : ByteArray} (h : a.size + b.size ≤ 100000) : ∀ w : World, (Op.stringOp .add a b).run Tryz.prog w = .ok (.string (a ++ b)) w := fun w => run_string_add_sum (P := Tryz.prog) w _ _ (by omega)
theorem size_ok {a b : ByteArray} {n m : Nat} (h1 : a.size ≤ n) (h2 : b.size ≤ m) : (a ++ b).size ≤ n + m := by
  rw [ByteArray.size_append]
  omega
theorem cat_sp (a b : Txt) : stB a ++ (⟨#[32]⟩ : ByteArray) ++ stB b = stB (a ++ 32 :: b) := by
  rw [show (⟨#[32]⟩ : ByteArray) = stB [32] from rfl, stB_app, stB_app]
  simp
theorem cat_sl (a : Txt) (s : ByteArray) (n : Nat) : stB a ++ (⟨#[32]⟩ : ByteArray) ++ s ++ (⟨#[47]⟩ : ByteArray) ++ stB (Lib.decDigits n) = stB (a ++ 32 :: slT ⟨s, n⟩) := by
  rw [← cat_sp, slT_str]
  simp only [ByteArray.append_assoc]
theorem cat_no (a : Txt) : stB a ++ (⟨#[32, 45]⟩ : ByteArray) = stB (a ++ 32 :: [45]) := by
  rw [show (⟨#[32, 45]⟩ : ByteArray) = stB [32, 45] from rfl, stB_app]
theorem cat_at (a b : Txt) : stB a ++ (⟨#[32, 64]⟩ : ByteArray) ++ stB b = stB (a ++ 32 :: 64 :: b) := by
  rw [show (⟨#[32, 64]⟩ : ByteArray) = stB [32, 64] from rfl, stB_app, stB_app]
  simp
theorem numD_any (n : Nat) (w : World) (hn : n ≤ 65535) : Calls Tryz.prog 39 #[.int .i64 n] w fun e w' => e = .returned (.string (stB (Lib.decDigits n))) ∧ Keeps w w' [] := by
  refine (num_any n w (by omega)).mono ?_
  rintro e w' ⟨rfl, k, rfl⟩
  exact ⟨rfl, (Keeps.refl _ _).drewN k⟩
theorem word_3' (o : LObj) (n : Int) : wordT o 3 n = bT (o.atoms.getD n.toNat ⟨#[]⟩) := word_3 o n
theorem word_4' (o : LObj) (n : Int) : wordT o 4 n = slT (o.funs.getD n.toNat ⟨⟨#[]⟩, 0⟩) := word_4 o n
theorem word_7' (o : LObj) (n : Int) : wordT o 7 n = slT ⟨(o.preds.getD n.toNat ⟨⟨#[]⟩, 0, 0⟩).name, (o.preds.getD n.toNat ⟨⟨#[]⟩, 0, 0⟩).arity⟩ := word_7 o n
attribute [local irreducible] preT
set_option maxRecDepth 100000 in
set_option maxHeartbeats 12800000 in
theorem rtext9_any (o : LObj) (i : LIns) (hok : insOk i = true) (harg : ∀ (j q : Nat), (kindsOf i.op)[j]? = some (q : Int) → ArgOk o q (i.arg j)) (Aa Af Ap Ac : Option Addr) (na nf np nc ca cf cp cc : Nat) (w : World) (hob : ObIs w o Aa Af Ap Ac ca cf cp cc) (la : o.atoms.length = na) (lf : o.funs.length = nf) (lp : o.preds.length = np) :
    Calls Tryz.prog 41 #[.agg #[.slice Aa na ca, .slice Af nf cf, .slice Ap np cp, .slice Ac nc cc], .agg #[.int .i64 i.op, .int .i64 i.a0, .int .i64 i.a1, .int .i64 i.a2, .int .i64 i.a3]] w fun e w' => e = .returned (.string (stB (textT o i))) ∧ Keeps w w' [] := by
  have k0 : Keeps w ((w.alloc (.cells #[.slice Aa na ca, .slice Af nf cf, .slice Ap np cp, .slice Ac nc cc] 39)).alloc (.cells #[.int .i64 i.op, .int .i64 i.a0, .int .i64 i.a1, .int .i64 i.a2, .int .i64 i.a3] 72)) [] := ((Keeps.refl w []).alloc _).alloc _
  have HOb : Hid (Blk ((w.alloc (.cells #[.slice Aa na ca, .slice Af nf cf, .slice Ap np cp, .slice Ac nc cc] 39)).alloc (.cells #[.int .i64 i.op, .int .i64 i.a0, .int .i64 i.a1, .int .i64 i.a2, .int .i64 i.a3] 72)) w.heap.size 39 #[.slice Aa na ca, .slice Af nf cf, .slice Ap np cp, .slice Ac nc cc]) := (Blk.new _ _ _).alloc _
  have HIb : Hid (Blk ((w.alloc (.cells #[.slice Aa na ca, .slice Af nf cf, .slice Ap np cp, .slice Ac nc cc] 39)).alloc (.cells #[.int .i64 i.op, .int .i64 i.a0, .int .i64 i.a1, .int .i64 i.a2, .int .i64 i.a3] 72)) (w.heap.size + 1) 72 #[.int .i64 i.op, .int .i64 i.a0, .int .i64 i.a1, .int .i64 i.a2, .int .i64 i.a3]) := Blk.newAt _ _ (by simp)
  have HK0 := Lib.hid k0
  have HO := Lib.hid hob
  have HArg := Lib.hid harg
  have HOk := Lib.hid hok
  have HPl := Lib.hid (fun j => preT_len hok harg j)
  have hilen := insTxt_len hok
  have HLa := Lib.hid la
  have HLf := Lib.hid lf
  have HLp := Lib.hid lp
  have HT : Hid (∀ W, Calls Tryz.prog 72 #[.agg #[.int .i64 i.op, .int .i64 i.a0, .int .i64 i.a1, .int .i64 i.a2, .int .i64 i.a3]] W fun e w' => e = .returned (.string (stB (insTxt i))) ∧ Keeps W w' []) := fun W => refText_any i W
  have i0 := HIb.out.cell 0
  clear k0 hob harg hok la lf lp
  go_enter Tryz.func41, Tryz.ntmps41
  go_wp2_with fail
  generalize (w.alloc (.cells #[.slice Aa na ca, .slice Af nf cf, .slice Ap np cp, .slice Ac nc cc] 39)).alloc (.cells #[.int .i64 i.op, .int .i64 i.a0, .int .i64 i.a1, .int .i64 i.a2, .int .i64 i.a3] 72) = w0 at *
  refine (refName6_any i.op _).mono ?_
  rintro e w1 ⟨rfl, k1⟩
  have HK1 := Lib.hid (HK0.out.trans k1)
  have HO1 := Lib.hid (HOb.out.keep k1 (by simp))
  have HI1 := Lib.hid (HIb.out.keep k1 (by simp))
  have i0 := HI1.out.cell 0
  clear k1 HOb HIb HK0
  go_wp2_with fail
  refine (refKinds_any i.op _).mono ?_
  rintro e w2 ⟨A, ck, rfl, hN, k2⟩
  have HN2 := Lib.hid hN
  have HK2 := Lib.hid (HK1.out.trans k2)
  have HO2 := Lib.hid (HO1.out.keep k2 (by simp))
  have HI2 := Lib.hid (HI1.out.keep k2 (by simp))
  have i0 := HI2.out.cell 0
  have i1 := HI2.out.cell 1
  have i2 := HI2.out.cell 2
  have i3 := HI2.out.cell 3
  have i4 := HI2.out.cell 4
  obtain ⟨m, hm⟩ : ∃ m, (kindsOf i.op).length = m := ⟨_, rfl⟩
  have hm4 := kinds_few i.op
  rw [hm] at hm4 ⊢
  have HM := Lib.hid hm
  clear k2 hN HO1 HI1 HK1 hm
  go_wp2_with fail
  refine (HT.out _).mono ?_
  rintro e w3 ⟨rfl, k3⟩
  have HK3 := Lib.hid k3
  clear k3 i0 i1 i2 i3 i4 HT
  go_wp2_with fail
  refine (refWords_any (stB (insTxt i)) (by rw [stB_size]; omega) _).mono ?_
  rintro e w4 ⟨WA, wc, rfl, hwd, k4⟩
  rw [stB_list, words_texts HOk.out, words_num, HM.out] at hwd ⊢
  have HKx := Lib.hid (HK3.out.trans k4)
  have HWd := Lib.hid (Rd.of_own hwd)
  have HK4 := Lib.hid (HK2.out.trans HKx.out)
  have HO4 := Lib.hid (HO2.out.keep HKx.out (by simp))
  have HI4 := Lib.hid (HI2.out.keep HKx.out (by simp))
  have HN4 : Hid (Nums .i64 w4 w4.heap.size A (kindsOf i.op)) := Lib.hid ((HN2.out.keep fun p hp => HKx.out.cell hp (by simp)).more HKx.out.size)
  have HP0 : Hid (nameOf i.op = stB (preT o i 0)) := Lib.hid (by rw [preT_zero]; exact (stB_of _).symm)
  rw [HP0.out]
  clear k4 hwd HK3 HO2 HI2 HN2 HK2 hilen
  go_wp2_with fail
  go_loopw [5, 8, 9] (fun v5 ix v9 wr => ∃ j : Nat, j ≤ m ∧ ix = .int .i64 j ∧ v5 = .string (stB (preT o i j)) ∧ Keeps w4 wr []) (fun _ ix _ _ => m - (intOf ix).toNat)
  case atStart => exact ⟨0, Nat.zero_le _, rfl, rfl, Keeps.refl _ _⟩
  case round =>
    obtain ⟨j, hj, rfl, rfl, kr⟩ := hrel
    have HKr := Lib.hid kr
    have HKw := Lib.hid (HK4.out.trans kr)
    have HObr := Lib.hid (HO4.out.keep kr (by simp))
    have HIbr := Lib.hid (HI4.out.keep kr (by simp))
    clear kr
    by_cases hlj : j < m
    · obtain ⟨b7, off7, y, hA7, hb7, hc7, hy⟩ := HN4.out j (by rw [HM.out]; exact hlj)
      subst hA7
      have hx1 := kinds_mem i.op y (List.mem_of_getElem? hy)
      obtain ⟨q, rfl⟩ := Int.eq_ofNat_of_zero_le (show 0 ≤ y by omega)
      have HY := Lib.hid hy
      have q1 := (HKr.out.cell (p := ⟨b7, off7 + j, none⟩) hb7 (by simp)).trans hc7
      have HAr := Lib.hid (HArg.out j q hy)
      have hj4 : j < 4 := by omega
      obtain ⟨z, hz⟩ := Int.eq_ofNat_of_zero_le HAr.out.low.1
      have HZ := Lib.hid hz
      have iv : World.cell? _ ⟨w.heap.size + 1, 1 + j, none⟩ = some (.int .i64 (i.arg j)) := (HIbr.out.cell (1 + j)).trans (insV_at i j hj4)
      rw [hz] at iv
      have hz6 : z ≤ 65535 := by have := HAr.out.low.2; omega
      have b1' : (j : Int) < (m : Int) := by omega
      have b0 : (0 : Int) ≤ (j : Int) := Int.natCast_nonneg _
      have b4 : (j : Int) < 4 := by omega
      have bz : (0 : Int) ≤ (z : Int) := Int.natCast_nonneg _
      clear hc7 hy hb7
      by_cases hq : q = 3
      · have d3 : ((q : Int) == 3) = true := by rw [beq_iff_eq]; omega
        obtain ⟨s, hs, hso⟩ := HAr.out.atom hq
        rw [hz, Int.toNat_natCast] at hs
        obtain ⟨b1, o1, e1, hb1, hc1⟩ := (HO.out.keep HKw.out).atoms.field strE_len hs (by omega)
        subst e1
        have f0 : wr.cell? ⟨b1, o1 + z, none⟩ = some (.string s) := by have := hc1 0 _ rfl; simpa using this
        have hzn : z < na := by have := (List.getElem?_eq_some_iff.1 hs).1; have := HLa.out; omega
        have c5 : (z : Int) < (na : Int) := by omega
        have o0 := HObr.out.cell 0
        have hns := nameOk_size hso
        have hpre : (stB (preT o i j)).size ≤ 1000 := by rw [stB_size]; exact HPl.out j
        have s1 := size_ok hpre (show (⟨#[32]⟩ : ByteArray).size ≤ 1 from Nat.le_refl _)
        have a1 := add_ok (a := stB (preT o i j)) (b := (⟨#[32]⟩ : ByteArray)) (by have : (⟨#[32]⟩ : ByteArray).size = 1 := rfl; omega)
        have a2 := add_ok (a := stB (preT o i j) ++ (⟨#[32]⟩ : ByteArray)) (b := s) (by omega)
        have HX : Hid (stB (preT o i j) ++ (⟨#[32]⟩ : ByteArray) ++ s = stB (preT o i (j + 1))) := Lib.hid (by
          rw [preT_succ HY.out, hq, word_3', List.getD_eq_getElem?_getD, hz, Int.toNat_natCast, hs, ← cat_sp]
          congr 1)
        clear hs hso hb1 hc1 hq hzn hns hpre s1
        generalize stB (preT o i j) = S1 at *
        go_wp2_with fail
        go_roundw
        case rel => exact ⟨j + 1, by omega, by go_num, by rw [HX.out], HKr.out⟩
        case measure => simp [intOf]; omega
      by_cases hq : q = 4
      · have d4 : ((q : Int) == 4) = true := by rw [beq_iff_eq]; omega
        have d3 : ((q : Int) == 3) = false := by rw [beq_eq_false_iff_ne]; omega
        obtain ⟨f, hf, hfo⟩ := HAr.out.fun_ hq
        rw [hz, Int.toNat_natCast] at hf
        simp only [funOk, Bool.and_eq_true, decide_eq_true_eq] at hfo
        obtain ⟨ar, har⟩ := Int.eq_ofNat_of_zero_le (show 0 ≤ f.arity by omega)
        obtain ⟨b1, o1, e1, hb1, hc1⟩ := (HO.out.keep HKw.out).funs.field funE_len hf (by omega)
        subst e1
        have f0 : wr.cell? ⟨b1, o1 + z * 2, none⟩ = some (.string f.name) := hc1 0 _ rfl
        have f1 : wr.cell? ⟨b1, o1 + z * 2 + 1, none⟩ = some (.int .i64 f.arity) := hc1 1 _ rfl
        rw [har] at f1
        have hzn : z < nf := by have := (List.getElem?_eq_some_iff.1 hf).1; have := HLf.out; omega
        have c5 : (z : Int) < (nf : Int) := by omega
        have HF : Hid (∀ W, Keeps wr W [] → W.cell? ⟨w.heap.size, 1, none⟩ = some (.slice (some ⟨b1, o1, none⟩) nf cf) ∧ W.cell? ⟨b1, o1 + z * 2, none⟩ = some (.string f.name) ∧ W.cell? ⟨b1, o1 + z * 2 + 1, none⟩ = some (.int .i64 ar)) := fun W kk => ⟨(HObr.out.keep kk (by simp)).cell 1, (kk.cell0 (block_lt_of_cell f0)).trans f0, (kk.cell0 (block_lt_of_cell f1)).trans f1⟩
        have hns := nameOk_size hfo.1
        have hds : (stB (Lib.decDigits ar)).size ≤ 7 := by rw [stB_size]; exact (digits_len ar (by omega)).2
        have hpre : (stB (preT o i j)).size ≤ 1000 := by rw [stB_size]; exact HPl.out j
        have s1 := size_ok hpre (show (⟨#[32]⟩ : ByteArray).size ≤ 1 from Nat.le_refl _)
        have s2 := size_ok s1 hns
        have s3 := size_ok s2 (show (⟨#[47]⟩ : ByteArray).size ≤ 1 from Nat.le_refl _)
        have a1 := add_ok (a := stB (preT o i j)) (b := (⟨#[32]⟩ : ByteArray)) (by have : (⟨#[32]⟩ : ByteArray).size = 1 := rfl; omega)
        have a2 := add_ok (a := stB (preT o i j) ++ (⟨#[32]⟩ : ByteArray)) (b := f.name) (by omega)
        have a3 := add_ok (a := stB (preT o i j) ++ (⟨#[32]⟩ : ByteArray) ++ f.name) (b := (⟨#[47]⟩ : ByteArray)) (by have : (⟨#[47]⟩ : ByteArray).size = 1 := rfl; omega)
        have a4 := add_ok (a := stB (preT o i j) ++ (⟨#[32]⟩ : ByteArray) ++ f.name ++ (⟨#[47]⟩ : ByteArray)) (b := stB (Lib.decDigits ar)) (by omega)
        have HX : Hid (stB (preT o i j) ++ (⟨#[32]⟩ : ByteArray) ++ f.name ++ (⟨#[47]⟩ : ByteArray) ++ stB (Lib.decDigits ar) = stB (preT o i (j + 1))) := Lib.hid (by
          rw [cat_sl, preT_succ HY.out, hq, word_4', List.getD_eq_getElem?_getD, hz, Int.toNat_natCast, hf]
          simp only [Option.getD_some]
          rw [show (f) = (⟨f.name, (ar : Int)⟩ : LFun) by rw [← har]])
        have HNm := Lib.hid (numD_any ar wr.drew (by omega))
        clear hf hfo hb1 hc1 f0 f1 har hzn hns hds hpre s1 s2 s3 hq
        generalize stB (preT o i j) = S1 at *
        generalize stB (Lib.decDigits ar) = dg at *
        go_upto_region 13 with fail
        clear q1 iv
        refine wp_region_tx (fun W' => W'.cell? ⟨w.heap.size, 1, none⟩ = some (.slice (some ⟨b1, o1, none⟩) nf cf) ∧ W'.cell? ⟨b1, o1 + z * 2, none⟩ = some (.string f.name) ∧ W'.cell? ⟨b1, o1 + z * 2 + 1, none⟩ = some (.int .i64 ar)) [(0, true), (1, true), (2, true), (3, true), (4, true), (5, true), (6, true), (7, true), (8, true), (9, true), (10, true), (11, true), (12, true), (13, true), (14, true), (15, true), (16, false), (17, true), (18, false)] (by kernel_rfl) (by kernel_rfl) (HF.out _ (Keeps.refl _ _).drew) (fun hHeld => ?_)
        (repeat (first | (refine wpTx_take (v := ?_) rfl (by assumption) ?_ (by rfl) ?_; rotate_left; (focus (intro w' hSw; (try dsimp only at hSw); go_simp; (try with_reducible rfl); done)); simp only [Act.put, List.setIfInBounds_toArray, List.set_cons_zero, List.set_cons_succ]) | (refine wpTx_skip rfl (by assumption) (by rfl) ?_; simp only [Act.put, List.setIfInBounds_toArray, List.set_cons_zero, List.set_cons_succ])))
        refine wpTx_go rfl (fun K hK => ?_)
        go_simp
        refine HNm.out.mono ?_
        rintro e w6 ⟨rfl, k6'⟩
        have k6 : Keeps wr w6 [] := (Keeps.refl wr []).drew.trans k6'
        have HFw := Lib.hid (HF.out w6 k6)
        clear k6'
        refine hK.out _ _ ?_ ?_
        · exact HFw.out
        (clear hHeld; intro hHeld; clear hK K; (try simp only [Act.put, List.setIfInBounds_toArray, List.set_cons_zero, List.set_cons_succ]))
        (repeat (first | (refine wpTx_take (v := ?_) rfl (by assumption) ?_ (by rfl) ?_; rotate_left; (focus (intro w' hSw; (try dsimp only at hSw); go_simp; (try with_reducible rfl); done)); simp only [Act.put, List.setIfInBounds_toArray, List.set_cons_zero, List.set_cons_succ]) | (refine wpTx_skip rfl (by assumption) (by rfl) ?_; simp only [Act.put, List.setIfInBounds_toArray, List.set_cons_zero, List.set_cons_succ])))
        refine wpTx_last rfl (fun K hK => ?_)
        go_simp
        refine hK.out _ _ (NoPanic.normal ?_); clear hK K; (try simp only [Act.put, List.setIfInBounds_toArray, List.set_cons_zero, List.set_cons_succ])
        clear hHeld a1 a2 a3 a4
        rw [HX.out]
        go_wp2_with fail
        go_roundw
        case rel => exact ⟨j + 1, by omega, by go_num, rfl, HKr.out.trans k6⟩
        case measure => simp [intOf]; omega
      by_cases hq : q = 7
      · have d7 : ((q : Int) == 7) = true := by rw [beq_iff_eq]; omega
        have d3 : ((q : Int) == 3) = false := by rw [beq_eq_false_iff_ne]; omega
        have d4 : ((q : Int) == 4) = false := by rw [beq_eq_false_iff_ne]; omega
        obtain ⟨f, hf, hfo⟩ := HAr.out.pred hq
        rw [hz, Int.toNat_natCast] at hf
        simp only [predOk, Bool.and_eq_true, decide_eq_true_eq] at hfo
        obtain ⟨ar, har⟩ := Int.eq_ofNat_of_zero_le (show 0 ≤ f.arity by omega)
        obtain ⟨b1, o1, e1, hb1, hc1⟩ := (HO.out.keep HKw.out).preds.field predE_len hf (by omega)
        subst e1
        have f0 : wr.cell? ⟨b1, o1 + z * 3, none⟩ = some (.string f.name) := hc1 0 _ rfl
        have f1 : wr.cell? ⟨b1, o1 + z * 3 + 1, none⟩ = some (.int .i64 f.arity) := hc1 1 _ rfl
        rw [har] at f1
        have hzn : z < np := by have := (List.getElem?_eq_some_iff.1 hf).1; have := HLp.out; omega
        have c5 : (z : Int) < (np : Int) := by omega
        have HF : Hid (∀ W, Keeps wr W [] → W.cell? ⟨w.heap.size, 2, none⟩ = some (.slice (some ⟨b1, o1, none⟩) np cp) ∧ W.cell? ⟨b1, o1 + z * 3, none⟩ = some (.string f.name) ∧ W.cell? ⟨b1, o1 + z * 3 + 1, none⟩ = some (.int .i64 ar)) := fun W kk => ⟨(HObr.out.keep kk (by simp)).cell 2, (kk.cell0 (block_lt_of_cell f0)).trans f0, (kk.cell0 (block_lt_of_cell f1)).trans f1⟩
        have hns := nameOk_size hfo.1
        have hds : (stB (Lib.decDigits ar)).size ≤ 7 := by rw [stB_size]; exact (digits_len ar (by omega)).2
        have hpre : (stB (preT o i j)).size ≤ 1000 := by rw [stB_size]; exact HPl.out j
        have s1 := size_ok hpre (show (⟨#[32]⟩ : ByteArray).size ≤ 1 from Nat.le_refl _)
        have s2 := size_ok s1 hns
        have s3 := size_ok s2 (show (⟨#[47]⟩ : ByteArray).size ≤ 1 from Nat.le_refl _)
        have a1 := add_ok (a := stB (preT o i j)) (b := (⟨#[32]⟩ : ByteArray)) (by have : (⟨#[32]⟩ : ByteArray).size = 1 := rfl; omega)
        have a2 := add_ok (a := stB (preT o i j) ++ (⟨#[32]⟩ : ByteArray)) (b := f.name) (by omega)
        have a3 := add_ok (a := stB (preT o i j) ++ (⟨#[32]⟩ : ByteArray) ++ f.name) (b := (⟨#[47]⟩ : ByteArray)) (by have : (⟨#[47]⟩ : ByteArray).size = 1 := rfl; omega)
        have a4 := add_ok (a := stB (preT o i j) ++ (⟨#[32]⟩ : ByteArray) ++ f.name ++ (⟨#[47]⟩ : ByteArray)) (b := stB (Lib.decDigits ar)) (by omega)
        have HX : Hid (stB (preT o i j) ++ (⟨#[32]⟩ : ByteArray) ++ f.name ++ (⟨#[47]⟩ : ByteArray) ++ stB (Lib.decDigits ar) = stB (preT o i (j + 1))) := Lib.hid (by
          rw [cat_sl, preT_succ HY.out, hq, word_7', List.getD_eq_getElem?_getD, hz, Int.toNat_natCast, hf]
          simp only [Option.getD_some]
          rw [show ((⟨f.name, f.arity⟩ : LFun)) = (⟨f.name, (ar : Int)⟩ : LFun) by rw [← har]])
        have HNm := Lib.hid (numD_any ar wr.drew (by omega))
        clear hf hfo hb1 hc1 f0 f1 har hzn hns hds hpre s1 s2 s3 hq
        generalize stB (preT o i j) = S1 at *
        generalize stB (Lib.decDigits ar) = dg at *
        go_upto_region 15 with fail
        clear q1 iv
        refine wp_region_tx (fun W' => W'.cell? ⟨w.heap.size, 2, none⟩ = some (.slice (some ⟨b1, o1, none⟩) np cp) ∧ W'.cell? ⟨b1, o1 + z * 3, none⟩ = some (.string f.name) ∧ W'.cell? ⟨b1, o1 + z * 3 + 1, none⟩ = some (.int .i64 ar)) [(0, true), (1, true), (2, true), (3, true), (4, true), (5, true), (6, true), (7, true), (8, true), (9, true), (10, true), (11, true), (12, true), (13, true), (14, true), (15, true), (16, false), (17, true), (18, false)] (by kernel_rfl) (by kernel_rfl) (HF.out _ (Keeps.refl _ _).drew) (fun hHeld => ?_)
        (repeat (first | (refine wpTx_take (v := ?_) rfl (by assumption) ?_ (by rfl) ?_; rotate_left; (focus (intro w' hSw; (try dsimp only at hSw); go_simp; (try with_reducible rfl); done)); simp only [Act.put, List.setIfInBounds_toArray, List.set_cons_zero, List.set_cons_succ]) | (refine wpTx_skip rfl (by assumption) (by rfl) ?_; simp only [Act.put, List.setIfInBounds_toArray, List.set_cons_zero, List.set_cons_succ])))
        refine wpTx_go rfl (fun K hK => ?_)
        go_simp
        refine HNm.out.mono ?_
        rintro e w6 ⟨rfl, k6'⟩
        have k6 : Keeps wr w6 [] := (Keeps.refl wr []).drew.trans k6'
        have HFw := Lib.hid (HF.out w6 k6)
        clear k6'
        refine hK.out _ _ ?_ ?_
        · exact HFw.out
        (clear hHeld; intro hHeld; clear hK K; (try simp only [Act.put, List.setIfInBounds_toArray, List.set_cons_zero, List.set_cons_succ]))
        (repeat (first | (refine wpTx_take (v := ?_) rfl (by assumption) ?_ (by rfl) ?_; rotate_left; (focus (intro w' hSw; (try dsimp only at hSw); go_simp; (try with_reducible rfl); done)); simp only [Act.put, List.setIfInBounds_toArray, List.set_cons_zero, List.set_cons_succ]) | (refine wpTx_skip rfl (by assumption) (by rfl) ?_; simp only [Act.put, List.setIfInBounds_toArray, List.set_cons_zero, List.set_cons_succ])))
        refine wpTx_last rfl (fun K hK => ?_)
        go_simp
        refine hK.out _ _ (NoPanic.normal ?_); clear hK K; (try simp only [Act.put, List.setIfInBounds_toArray, List.set_cons_zero, List.set_cons_succ])
        clear hHeld a1 a2 a3 a4
        rw [HX.out]
        go_wp2_with fail
        go_roundw
        case rel => exact ⟨j + 1, by omega, by go_num, rfl, HKr.out.trans k6⟩
        case measure => simp [intOf]; omega
      have d3 : ((q : Int) == 3) = false := by rw [beq_eq_false_iff_ne]; omega
      have d4 : ((q : Int) == 4) = false := by rw [beq_eq_false_iff_ne]; omega
      have d7 : ((q : Int) == 7) = false := by rw [beq_eq_false_iff_ne]; omega
      have hpre : (stB (preT o i j)).size ≤ 1000 := by rw [stB_size]; exact HPl.out j
      by_cases hq : q = 8
      · have d8 : ((q : Int) == 8) = true := by rw [beq_iff_eq]; omega
        by_cases hv : z = 65535
        · have d9 : ((z : Int) == 65535) = true := by rw [beq_iff_eq]; omega
          have a1 := add_ok (a := stB (preT o i j)) (b := (⟨#[32, 45]⟩ : ByteArray)) (by have : (⟨#[32, 45]⟩ : ByteArray).size = 2 := rfl; omega)
          have HX : Hid (stB (preT o i j) ++ (⟨#[32, 45]⟩ : ByteArray) = stB (preT o i (j + 1))) := Lib.hid (by
            rw [cat_no, preT_succ HY.out, hq, word_8, hz, hv, if_pos (by omega)])
          clear hv hq hpre
          generalize stB (preT o i j) = S1 at *
          go_wp2_with fail
          go_roundw
          case rel => exact ⟨j + 1, by omega, by go_num, by rw [HX.out], HKr.out⟩
          case measure => simp [intOf]; omega
        · have d9 : ((z : Int) == 65535) = false := by rw [beq_eq_false_iff_ne]; omega
          have s1 := size_ok hpre (show (⟨#[32, 64]⟩ : ByteArray).size ≤ 2 from Nat.le_refl _)
          have hds : (stB (Lib.decDigits z)).size ≤ 7 := by rw [stB_size]; exact (digits_len z (by omega)).2
          have a1 := add_ok (a := stB (preT o i j)) (b := (⟨#[32, 64]⟩ : ByteArray)) (by have : (⟨#[32, 64]⟩ : ByteArray).size = 2 := rfl; omega)
          have a2 := add_ok (a := stB (preT o i j) ++ (⟨#[32, 64]⟩ : ByteArray)) (b := stB (Lib.decDigits z)) (by omega)
          have HX : Hid (stB (preT o i j) ++ (⟨#[32, 64]⟩ : ByteArray) ++ stB (Lib.decDigits z) = stB (preT o i (j + 1))) := Lib.hid (by
            rw [cat_at, preT_succ HY.out, hq, word_8, hz, if_neg (by omega), Int.toNat_natCast])
          have HI := Lib.hid (numD_any z wr (by omega))
          clear hv hq hpre s1 hds
          generalize stB (preT o i j) = S1 at *
          generalize stB (Lib.decDigits z) = dg at *
          go_wp2_with fail
          refine HI.out.mono ?_
          rintro e w6 ⟨rfl, k6⟩
          go_wp2_with fail
          go_roundw
          case rel => exact ⟨j + 1, by omega, by go_num, by rw [HX.out], HKr.out.trans k6⟩
          case measure => simp [intOf]; omega
      have d8 : ((q : Int) == 8) = false := by rw [beq_eq_false_iff_ne]; omega
      have hw1 : (wordsOf i)[j + 1]? = some (opTxt q (i.arg j).toNat) := words_at HY.out
      rw [hz, Int.toNat_natCast] at hw1
      have hw2 : ((wordsOf i).map fun x => Value.string (stB x))[j + 1]? = some (.string (stB (opTxt q z))) := by rw [List.getElem?_map, hw1]; rfl
      obtain ⟨b8, o8, v8, hA8, hb8, hc8, hv8⟩ := HWd.out (j + 1) (List.getElem?_eq_some_iff.1 hw2).1
      subst hA8
      rw [hw2] at hv8
      injection hv8 with hv8
      subst hv8
      have p8 : wr.cell? ⟨b8, o8 + (j + 1), none⟩ = some (.string (stB (opTxt q z))) := (HKr.out.cell0 hb8).trans hc8
      have hos : (stB (opTxt q z)).size ≤ 8 := by rw [stB_size]; exact opTxt_len (by omega)
      have s1 := size_ok hpre (show (⟨#[32]⟩ : ByteArray).size ≤ 1 from Nat.le_refl _)
      have a1 := add_ok (a := stB (preT o i j)) (b := (⟨#[32]⟩ : ByteArray)) (by have : (⟨#[32]⟩ : ByteArray).size = 1 := rfl; omega)
      have a2 := add_ok (a := stB (preT o i j) ++ (⟨#[32]⟩ : ByteArray)) (b := stB (opTxt q z)) (by omega)
      have HX : Hid (stB (preT o i j) ++ (⟨#[32]⟩ : ByteArray) ++ stB (opTxt q z) = stB (preT o i (j + 1))) := Lib.hid (by
        rw [cat_sp, preT_succ HY.out, word_o o _ ⟨by omega, by omega, by omega, by omega⟩, hz, Int.toNat_natCast])
      have b5 : (j : Int) + 1 < (m : Int) + 1 := by omega
      have b6 : (0 : Int) ≤ (j : Int) + 1 := by omega
      clear hw1 hw2 hb8 hc8 hos s1 hpre
      generalize stB (preT o i j) = S1 at *
      generalize stB (opTxt q z) = wd at *
      go_wp2_with fail
      go_roundw
      case rel => exact ⟨j + 1, by omega, by go_num, by rw [HX.out], HKr.out⟩
      case measure => simp [intOf]; omega
    · obtain rfl : m = j := by omega
      have HE := Lib.hid (preT_end o i HM.out)
      rw [HE.out]
      go_wp2_with fail
      go_ret
      exact ⟨rfl, HKw.out⟩
end Go.Proofs.YtpcihhdalofdiaaGreatDoor

/- An object's lines: the document's Lines. Printed by gen_asrlin.py. -/
namespace Go.Proofs.YtpcihhdalofdiaaGreatDoor
open Go.RowKit Go.Maps

/-- A predicate's line. -/
def lnP (p : LPred) : Txt := predW ++ 32 :: slT ⟨p.name, p.arity⟩
def prL (n : Nat) (l : List LPred) : List Txt := (l.filter (isEnt n)).map lnP
theorem prL_yes {n : Nat} {l : List LPred} {j : Nat} {p : LPred} (h : l[j]? = some p) (he : isEnt n p = true) : prL n (l.take (j + 1)) = prL n (l.take j) ++ [lnP p] := by
  unfold prL
  rw [take_snocA h, List.filter_append, List.map_append, List.filter_cons, he]
  rfl
theorem prL_no {n : Nat} {l : List LPred} {j : Nat} {p : LPred} (h : l[j]? = some p) (he : isEnt n p = false) : prL n (l.take (j + 1)) = prL n (l.take j) := by
  unfold prL
  rw [take_snocA h, List.filter_append, List.map_append, List.filter_cons, he]
  simp
/-- Entries are apart: one predicate at most begins at a place. -/
theorem dup_filter {n : Nat} (hn : n < 65535) : ∀ {l : List LPred}, dupB (entL l) = false → l.filter (isEnt n) = (l.find? (isEnt n)).toList
  | [], _ => rfl
  | p :: l, h => by
    have hl : dupB (entL l) = false := by
      unfold entL at h ⊢
      rw [List.filter_cons] at h
      split at h
      · rw [List.map_cons, dupB] at h
        simp only [Bool.or_eq_false_iff] at h
        exact h.2
      · exact h
    have ih := dup_filter hn hl
    rw [List.filter_cons, List.find?_cons]
    cases hp : isEnt n p with
    | false => simpa using ih
    | true =>
      simp only [if_true]
      have he : p.entry = (n : Int) := by unfold isEnt at hp; simpa using hp
      have hne : (p.entry != 65535) = true := by rw [he, bne_iff_ne]; omega
      unfold entL at h
      rw [List.filter_cons, hne] at h
      simp only [if_true, List.map_cons] at h
      rw [dupB] at h
      simp only [Bool.or_eq_false_iff] at h
      have h1 : ∀ q ∈ l, isEnt n q = false := fun q hq => by
        cases hqe : isEnt n q with
        | false => rfl
        | true =>
          have hqe' : q.entry = (n : Int) := by unfold isEnt at hqe; simpa using hqe
          have hm : p.entry ∈ (l.filter fun p => p.entry != 65535).map (·.entry) := List.mem_map.2 ⟨q, List.mem_filter.2 ⟨hq, by rw [hqe', bne_iff_ne]; omega⟩, by rw [hqe', he]⟩
          have := h.1
          simp only [List.contains_eq_mem, decide_eq_false_iff_not] at this
          exact absurd hm this
      rw [List.filter_eq_nil_iff.2 (fun q hq => by rw [h1 q hq]; simp)]
      rfl
attribute [local irreducible] numT kindsOf nameOf checkE fitsP operandP plainP labelP slashP namedT programP insTxt wordsOf tgI tgL textT bigB wordT wordsT opTxt preT
theorem pred_str9 (p : LPred) (ar : Nat) (h : p.arity = ar) : (⟨#[112, 114, 101, 100, 32]⟩ : ByteArray) ++ p.name ++ (⟨#[47]⟩ : ByteArray) ++ stB (Lib.decDigits ar) = stB (lnP p) := by
  unfold lnP
  rw [h]
  have e1 : (⟨#[112, 114, 101, 100, 32]⟩ : ByteArray) = stB [112, 114, 101, 100, 32] := rfl
  have e2 : predW ++ 32 :: slT ⟨p.name, (ar : Int)⟩ = [112, 114, 101, 100, 32] ++ slT ⟨p.name, (ar : Int)⟩ := rfl
  rw [e2, ← stB_app, slT_str, e1]
  simp only [ByteArray.append_assoc]
theorem sms_true {x : Int} {l : List Int} (h : x ∈ l) (r : List Int) : decide (x ∈ l ++ r) = true := decide_eq_true (by simp [h])
theorem tgI_yes {i : LIns} {j : Nat} {l : List Int} {n : Int} (h : (kindsOf i.op)[j]? = some 8) : decide (n ∈ l ++ tgI i (j + 1)) = (decide (n ∈ l ++ tgI i j) || decide (i.arg j = n)) := by
  rw [tgI_succ_yes h, Bool.eq_iff_iff]
  simp only [List.mem_append, List.mem_singleton, Bool.or_eq_true, decide_eq_true_eq]
  constructor
  · rintro (h1 | h1 | h1)
    · exact .inl (.inl h1)
    · exact .inl (.inr h1)
    · exact .inr h1.symm
  · rintro ((h1 | h1) | h1)
    · exact .inl h1
    · exact .inr (.inl h1)
    · exact .inr (.inr h1.symm)
set_option maxRecDepth 100000 in
set_option maxHeartbeats 12800000 in
theorem refLines_any (o : LObj) (Aa Af Ap Ac : Option Addr) (na nf np nc ca cf cp cc : Nat) (w : World) (hob : ObIs w o Aa Af Ap Ac ca cf cp cc) (hfit : Fits o) (la : o.atoms.length = na) (lf : o.funs.length = nf) (lp : o.preds.length = np) (lc : o.code.length = nc) :
    Calls Tryz.prog 16 #[.agg #[.slice Aa na ca, .slice Af nf cf, .slice Ap np cp, .slice Ac nc cc]] w (LiDone w (linesE o)) := by
  have k0 : Keeps w (w.alloc (.cells #[.slice Aa na ca, .slice Af nf cf, .slice Ap np cp, .slice Ac nc cc] 39)) [] := (Keeps.refl w []).alloc _
  have HOb : Hid (Blk (w.alloc (.cells #[.slice Aa na ca, .slice Af nf cf, .slice Ap np cp, .slice Ac nc cc] 39)) w.heap.size 39 #[.slice Aa na ca, .slice Af nf cf, .slice Ap np cp, .slice Ac nc cc]) := Blk.new _ _ _
  have HCk := Lib.hid (refCheck_any o Aa Af Ap Ac na nf np nc ca cf cp cc (w.alloc (.cells #[.slice Aa na ca, .slice Af nf cf, .slice Ap np cp, .slice Ac nc cc] 39)) (hob.keep k0) hfit la lf lp lc)
  have HK0 := Lib.hid k0
  have HO := Lib.hid hob
  have HFit := Lib.hid hfit
  have HLa := Lib.hid la
  have HLf := Lib.hid lf
  have HLp := Lib.hid lp
  have HLc := Lib.hid lc
  have o0 := HOb.out.cell 0
  have o1 := HOb.out.cell 1
  have o2 := HOb.out.cell 2
  have o3 := HOb.out.cell 3
  unfold ErrTold at HCk
  have HLE : Hid (linesE o = if checkE o ≠ 0 then [] else linesT o) := rfl
  have HOk := Lib.hid (@check_ok o)
  generalize checkE o = ck at *
  clear k0 hob hfit la lf lp lc
  go_enter Tryz.func16, Tryz.ntmps16
  go_wp2_with fail
  generalize w.alloc (.cells #[.slice Aa na ca, .slice Af nf cf, .slice Ap np cp, .slice Ac nc cc] 39) = w0 at *
  refine HCk.out.mono ?_
  rintro e w2 ⟨rfl, k1⟩
  have HK02 := Lib.hid (HK0.out.trans k1)
  have HB2 := Lib.hid (HOb.out.keep k1 (by simp))
  clear k1 o0 o1 o2 o3 HCk HK0 HOb
  by_cases hck : ck = 0
  case neg =>
    have d0 : (ck == 0) = false := by simpa using hck
    have d1 : (ck != 0) = true := by simpa using hck
    have HV := Lib.hid (HLE.out.trans (if_pos hck))
    clear hck
    go_wp2_with fail
    go_ret
    rw [HV.out]
    exact ⟨none, 0, rfl, Rd.nil, HK02.out, fun _ => rfl⟩
  have HObj := Lib.hid (HOk.out hck)
  have HLE2 : Hid (linesE o = linesT o) := HLE.out.trans (if_neg (by simp [hck]))
  subst hck
  have HO2 := Lib.hid (HO.out.keep HK02.out)
  have hnc : nc ≤ 1024 := by
    have h1 := HObj.out.big
    unfold bigO bigB at h1
    simp only [Bool.or_eq_false_iff, decide_eq_false_iff_not] at h1
    have := HLc.out
    omega
  have HDup : Hid (dupB (entL o.preds) = false) := Lib.hid (by
    have h1 := HObj.out.ents
    unfold entriesB at h1
    simp only [Bool.and_eq_true, Bool.not_eq_true'] at h1
    exact h1.2)
  have HTxt0 : Hid (∀ (i : LIns), i ∈ o.code → ∀ W, Keeps w2 W [] → Calls Tryz.prog 41 #[.agg #[.slice Aa na ca, .slice Af nf cf, .slice Ap np cp, .slice Ac nc cc], .agg #[.int .i64 i.op, .int .i64 i.a0, .int .i64 i.a1, .int .i64 i.a2, .int .i64 i.a3]] W fun e w' => e = .returned (.string (stB (textT o i))) ∧ Keeps W w' []) := fun i hi W kk => by
    have hins := HObj.out.ins hi
    exact rtext9_any o i hins.1 hins.2 Aa Af Ap Ac na nf np nc ca cf cp cc W (HO2.out.keep kk) HLa.out HLf.out HLp.out
  have hnp : np ≤ 65536 := by have := HFit.out.preds; have := HLp.out; omega
  have H0 : Hid (LR w2 w2 none 0 0 []) := ⟨⟨by simp, .inl ⟨rfl, rfl⟩⟩, Keeps.refl _ _⟩
  clear HLE HOk w0
  go_wp2_with fail
  go_loopw [3, 4, 5, 6, 7, 8, 9] (fun v3 ix v5 v6 v7 v8 v9 wr => ∃ k : Nat, k ≤ nc ∧ ix = .int .i64 k ∧ ∃ OA no oc, v3 = .slice OA no oc ∧ no ≤ 200000 * k ∧ LR w2 wr OA no oc (linesFrom o 0 (o.code.take k))) (fun _ ix _ _ _ _ _ _ => nc - (intOf ix).toNat)
  case atStart => exact ⟨0, Nat.zero_le _, rfl, none, 0, 0, rfl, Nat.zero_le _, H0.out⟩
  case round =>
    clear H0
    obtain ⟨k, hk, rfl, OA, no, oc, rfl, hno, hlr⟩ := hrel
    have HR := Lib.hid hlr
    have HNo := Lib.hid hno
    clear hlr hno
    have o3 := (HB2.out.keep HR.out.keep (by simp)).cell 3
    by_cases hlk : k < nc
    · obtain ⟨i, hi⟩ := at_of HLc.out hlk
      obtain ⟨b, off, e1, hb, hc⟩ := HO2.out.code.field insE_len hi (by omega)
      have HFi : Hid (∀ W, Keeps w2 W [] → (W.cell? ⟨w.heap.size, 0, none⟩ = some (.slice Aa na ca) ∧ W.cell? ⟨w.heap.size, 1, none⟩ = some (.slice Af nf cf) ∧ W.cell? ⟨w.heap.size, 2, none⟩ = some (.slice Ap np cp) ∧ W.cell? ⟨w.heap.size, 3, none⟩ = some (.slice (some ⟨b, off, none⟩) nc cc)) ∧ W.cell? ⟨b, off + k * 5, none⟩ = some (.int .i64 i.op) ∧ W.cell? ⟨b, off + k * 5 + 1, none⟩ = some (.int .i64 i.a0) ∧ W.cell? ⟨b, off + k * 5 + 2, none⟩ = some (.int .i64 i.a1) ∧ W.cell? ⟨b, off + k * 5 + 3, none⟩ = some (.int .i64 i.a2) ∧ W.cell? ⟨b, off + k * 5 + 4, none⟩ = some (.int .i64 i.a3)) := fun W kk => ⟨⟨(HB2.out.keep kk (by simp)).cell 0, (HB2.out.keep kk (by simp)).cell 1, (HB2.out.keep kk (by simp)).cell 2, by rw [← e1]; exact (HB2.out.keep kk (by simp)).cell 3⟩, (kk.cell0 hb).trans (hc 0 _ rfl), (kk.cell0 hb).trans (hc 1 _ rfl), (kk.cell0 hb).trans (hc 2 _ rfl), (kk.cell0 hb).trans (hc 3 _ rfl), (kk.cell0 hb).trans (hc 4 _ rfl)⟩
      have HTxt := Lib.hid (HTxt0.out i (List.mem_of_getElem? hi))
      have HAc := Lib.hid e1
      have HSn : Hid (linesFrom o 0 (o.code.take (k + 1)) = linesFrom o 0 (o.code.take k) ++ lineT o k i) := Lib.hid (by
        rw [take_snocA hi, linesFrom_snoc, List.length_take, HLc.out, Nat.zero_add, Nat.min_eq_left hk])
      generalize linesFrom o 0 (o.code.take k) = ls at *
      have b1' : (k : Int) < (nc : Int) := by omega
      have b0 : (0 : Int) ≤ (k : Int) := Int.natCast_nonneg _
      clear hi hb hc e1
      obtain ⟨wo, hwo⟩ : ∃ wo, wo = wr := ⟨wr, rfl⟩
      subst hwo
      go_wp2_with fail
      go_loopw [3, 5] (fun v3 ix wr => ∃ j : Nat, j ≤ np ∧ ix = .int .i64 j ∧ ∃ OA no oc, v3 = .slice OA no oc ∧ no ≤ 200000 * k + j ∧ LR w2 wr OA no oc (ls ++ prL k (o.preds.take j))) (fun _ ix _ => np - (intOf ix).toNat)
      case atStart => exact ⟨0, Nat.zero_le _, rfl, OA, no, oc, rfl, HNo.out, by rw [List.take_zero, show prL k [] = [] from rfl, List.append_nil]; exact HR.out⟩
      case round =>
        clear HR HNo o3
        obtain ⟨j, hj, rfl, OA, no, oc, rfl, hno, hlr⟩ := hrel
        have HR := Lib.hid hlr
        have HNo := Lib.hid hno
        clear hlr hno
        have o2 := (HB2.out.keep HR.out.keep (by simp)).cell 2
        by_cases hlj : j < np
        · obtain ⟨p, hp⟩ := at_of HLp.out hlj
          have hpo := HObj.out.preds p (List.mem_of_getElem? hp)
          simp only [predOk, Bool.and_eq_true, decide_eq_true_eq] at hpo
          obtain ⟨ar, har⟩ := Int.eq_ofNat_of_zero_le (show 0 ≤ p.arity by omega)
          obtain ⟨b1, o1, e1, hb1, hc1⟩ := HO2.out.preds.field predE_len hp (by omega)
          have f0 : w2.cell? ⟨b1, o1 + j * 3, none⟩ = some (.string p.name) := hc1 0 _ rfl
          have f1 : w2.cell? ⟨b1, o1 + j * 3 + 1, none⟩ = some (.int .i64 p.arity) := hc1 1 _ rfl
          have f2 : wr.cell? ⟨b1, o1 + j * 3 + 2, none⟩ = some (.int .i64 p.entry) := (HR.out.keep.cell0 hb1).trans (hc1 2 _ rfl)
          rw [har] at f1
          have HP := Lib.hid hp
          have c1 : (j : Int) < (np : Int) := by omega
          have c0 : (0 : Int) ≤ (j : Int) := Int.natCast_nonneg _
          have HF11 : Hid (∀ W, Keeps w2 W [] → W.cell? ⟨w.heap.size, 2, none⟩ = some (.slice (some ⟨b1, o1, none⟩) np cp) ∧ W.cell? ⟨b1, o1 + j * 3, none⟩ = some (.string p.name) ∧ W.cell? ⟨b1, o1 + j * 3 + 1, none⟩ = some (.int .i64 ar)) := fun W kk => ⟨by rw [← e1]; exact (HB2.out.keep kk (by simp)).cell 2, (kk.cell0 (block_lt_of_cell f0)).trans f0, (kk.cell0 (block_lt_of_cell f1)).trans f1⟩
          rw [e1] at o2
          cases he : isEnt k p with
          | false =>
            have HL2 : Hid (prL k (o.preds.take (j + 1)) = prL k (o.preds.take j)) := Lib.hid (prL_no hp he)
            have d0 : (p.entry == (k : Int)) = false := he
            clear he hp hpo hb1 hc1 f0 f1 har e1 HF11
            go_wp2_with fail
            go_roundw
            case rel => exact ⟨j + 1, by omega, by go_num, OA, no, oc, rfl, by have := HNo.out; omega, by rw [HL2.out]; exact HR.out⟩
            case measure => simp [intOf]; omega
          | true =>
            have HL2 : Hid (prL k (o.preds.take (j + 1)) = prL k (o.preds.take j) ++ [lnP p]) := Lib.hid (prL_yes hp he)
            have d0 : (p.entry == (k : Int)) = true := he
            have HX := Lib.hid (pred_str9 p ar har)
            have hns := nameOk_size hpo.1
            have hds : (stB (Lib.decDigits ar)).size ≤ 7 := by rw [stB_size]; exact (digits_len ar (by omega)).2
            have s1 := size_ok (show (⟨#[112, 114, 101, 100, 32]⟩ : ByteArray).size ≤ 5 from Nat.le_refl _) hns
            have s2 := size_ok s1 (show (⟨#[47]⟩ : ByteArray).size ≤ 1 from Nat.le_refl _)
            have a1 := add_ok (a := (⟨#[112, 114, 101, 100, 32]⟩ : ByteArray)) (b := p.name) (by have : (⟨#[112, 114, 101, 100, 32]⟩ : ByteArray).size = 5 := rfl; omega)
            have a2 := add_ok (a := (⟨#[112, 114, 101, 100, 32]⟩ : ByteArray) ++ p.name) (b := (⟨#[47]⟩ : ByteArray)) (by have : (⟨#[47]⟩ : ByteArray).size = 1 := rfl; omega)
            have a3 := add_ok (a := (⟨#[112, 114, 101, 100, 32]⟩ : ByteArray) ++ p.name ++ (⟨#[47]⟩ : ByteArray)) (b := stB (Lib.decDigits ar)) (by omega)
            have HNm := Lib.hid (numD_any ar wr.drew (by omega))
            clear he hp hpo hb1 hc1 f0 f1 har e1 hns hds s1 s2
            generalize stB (Lib.decDigits ar) = dg at *
            go_upto_region 11 with fail
            clear o2 f2
            refine wp_region_tx (fun W' => W'.cell? ⟨w.heap.size, 2, none⟩ = some (.slice (some ⟨b1, o1, none⟩) np cp) ∧ W'.cell? ⟨b1, o1 + j * 3, none⟩ = some (.string p.name) ∧ W'.cell? ⟨b1, o1 + j * 3 + 1, none⟩ = some (.int .i64 ar)) [(0, true), (1, true), (2, true), (3, true), (4, true), (5, true), (6, true), (7, true), (8, true), (9, true), (10, true), (11, true), (12, true), (13, true), (14, true), (15, false), (16, true), (17, false), (18, false), (19, false)] (by kernel_rfl) (by kernel_rfl) (HF11.out _ HR.out.keep.drew) (fun hHeld => ?_)
            (repeat (first | (refine wpTx_take (v := ?_) rfl (by assumption) ?_ (by rfl) ?_; rotate_left; (focus (intro w' hSw; (try dsimp only at hSw); go_simp; (try with_reducible rfl); done)); simp only [Act.put, List.setIfInBounds_toArray, List.set_cons_zero, List.set_cons_succ]) | (refine wpTx_skip rfl (by assumption) (by rfl) ?_; simp only [Act.put, List.setIfInBounds_toArray, List.set_cons_zero, List.set_cons_succ])))
            refine wpTx_go rfl (fun K hK => ?_)
            go_simp
            refine HNm.out.mono ?_
            rintro e w5 ⟨rfl, k5'⟩
            have HK5 : Hid (Keeps wr w5 []) := (Keeps.refl wr []).drew.trans k5'
            have HFw := Lib.hid (HF11.out w5 (HR.out.keep.trans HK5.out))
            clear k5'
            refine hK.out _ _ ?_ ?_
            · exact HFw.out
            (clear hHeld; intro hHeld; clear hK K; (try simp only [Act.put, List.setIfInBounds_toArray, List.set_cons_zero, List.set_cons_succ]))
            (repeat (first | (refine wpTx_take (v := ?_) rfl (by assumption) ?_ (by rfl) ?_; rotate_left; (focus (intro w' hSw; (try dsimp only at hSw); go_simp; (try with_reducible rfl); done)); simp only [Act.put, List.setIfInBounds_toArray, List.set_cons_zero, List.set_cons_succ]) | (refine wpTx_skip rfl (by assumption) (by rfl) ?_; simp only [Act.put, List.setIfInBounds_toArray, List.set_cons_zero, List.set_cons_succ])))
            rw [HX.out]
            refine wpTx_go rfl (fun K hK => ?_)
            go_simp
            refine hK.out _ _ ?_ ?_
            · exact HF11.out _ ((HR.out.keep.trans HK5.out).alloc _)
            (clear hHeld; intro hHeld; clear hK K; (try simp only [Act.put, List.setIfInBounds_toArray, List.set_cons_zero, List.set_cons_succ]))
            refine wpTx_go rfl (fun K hK => ?_)
            have K6 : Keeps wr (w5.alloc (.cells #[.string (stB (lnP p))] 9)) [] := HK5.out.alloc _
            refine step_app _ el_atomA (by rfl) _ _ (by rfl) w2.heap.size OA no oc (((ls ++ prL k (o.preds.take j)).map stB).flatMap strE) (by rfl) (own_keep0 HR.out.own K6) (some ⟨w5.heap.size, 0, none⟩) 1 1 (strE (stB (lnP p))) (by rfl) (Rd.one w5 _ (strE (stB (lnP p)))) rfl (by simp) (by simp [strE, Value.oneCell']) (by have := HNo.out; omega) (Nat.le_trans HR.out.keep.size K6.size) ?_
            intro A' c' w6 hown hgrow _
            have HR6 := Lib.hid (HR.out.app K6 hown hgrow)
            have HFx := Lib.hid (HF11.out w6 HR6.out.keep)
            clear hown hgrow K6
            refine hK.out _ _ ?_ ?_
            · exact HFx.out
            (clear hHeld; intro hHeld; clear hK K; (try simp only [Act.put, List.setIfInBounds_toArray, List.set_cons_zero, List.set_cons_succ]))
            refine wpTx_last rfl (fun K hK => ?_)
            go_simp
            refine hK.out _ _ (NoPanic.normal ?_); clear hK K; (try simp only [Act.put, List.setIfInBounds_toArray, List.set_cons_zero, List.set_cons_succ])
            clear hHeld HF11 HFw HFx HK5 a1 a2 a3
            go_wp2_with fail
            go_roundw
            case rel => exact ⟨j + 1, by omega, by go_num, A', no + 1, c', rfl, by have := HNo.out; omega, by rw [HL2.out, ← List.append_assoc]; exact HR6.out⟩
            case measure => simp [intOf]; omega
        · obtain rfl : np = j := by omega
          have HR5' := HR.out
          rw [List.take_of_length_le (by rw [HLp.out]; exact Nat.le_refl _)] at HR5'
          have HLT : Hid (lineT o k i = prL k o.preds ++ ((if targetB o k then [64 :: Lib.decDigits k] else []) ++ [textT o i])) := Lib.hid (by
            unfold lineT prL
            rw [dup_filter (by omega) HDup.out]
            have e : (fun p : LPred => p.entry == (k : Int)) = isEnt k := rfl
            rw [e]
            cases o.preds.find? (isEnt k) <;> rfl)
          have HLT2 : Hid (ls ++ lineT o k i = (ls ++ prL k o.preds) ++ ((if targetB o k then [64 :: Lib.decDigits k] else []) ++ [textT o i])) := Lib.hid (by rw [HLT.out, List.append_assoc])
          generalize ls ++ prL k o.preds = l5 at *
          have HR5 := Lib.hid HR5'
          have HN5 : Hid (no ≤ 200000 * k + 100000) := Lib.hid (by have := HNo.out; omega)
          clear HR5' HR HNo HLT hj hlj
          have HLT := HLT2
          obtain ⟨OA5, hOA⟩ : ∃ A, A = OA := ⟨_, rfl⟩
          subst hOA
          obtain ⟨n5, hn5⟩ : ∃ n, n = no := ⟨_, rfl⟩
          subst hn5
          obtain ⟨c5, hc5⟩ : ∃ c, c = oc := ⟨_, rfl⟩
          subst hc5
          obtain ⟨w3, hw3⟩ : ∃ w3, w3 = wr := ⟨wr, rfl⟩
          subst hw3
          go_wp2_with fail
          clear o2
          go_loopw [6, 7, 8, 9] (fun v6 ix v8 v9 wr => ∃ j : Nat, j ≤ nc ∧ ix = .int .i64 j ∧ v6 = .bool (decide ((k : Int) ∈ tgL (o.code.take j))) ∧ Keeps w3 wr []) (fun _ ix _ _ _ => nc - (intOf ix).toNat)
          case atStart => exact ⟨0, Nat.zero_le _, rfl, by rw [List.take_zero, tgL_nil]; rfl, Keeps.refl _ _⟩
          case round =>
            obtain ⟨j, hj, rfl, rfl, kr⟩ := hrel
            have HKr := Lib.hid kr
            have HRr := Lib.hid (HR5.out.keep0 kr)
            clear kr
            have o3 := (HB2.out.keep HRr.out.keep (by simp)).cell 3
            by_cases hlj : j < nc
            · obtain ⟨x, hx⟩ := at_of HLc.out hlj
              obtain ⟨b2, off2, e2, hb2, hc2⟩ := HO2.out.code.field insE_len hx (by omega)
              have r0 : wr.cell? ⟨b2, off2 + j * 5, none⟩ = some (.int .i64 x.op) := (HRr.out.keep.cell0 hb2).trans (hc2 0 _ rfl)
              have HX := Lib.hid hx
              have HAr := Lib.hid (fun (l : Nat) (hl : l < 4) => (show w2.cell? ⟨b2, off2 + j * 5 + (1 + l), none⟩ = some (.int .i64 (x.arg l)) from hc2 (1 + l) _ (insE_arg x l hl)))
              have HB2l := Lib.hid hb2
              have c1 : (j : Int) < (nc : Int) := by omega
              have c0 : (0 : Int) ≤ (j : Int) := Int.natCast_nonneg _
              have HO3 : Hid (∀ W, Keeps w2 W [] → W.cell? ⟨w.heap.size, 3, none⟩ = some (.slice (some ⟨b2, off2, none⟩) nc cc)) := fun W kk => by rw [← e2]; exact (HB2.out.keep kk (by simp)).cell 3
              rw [e2] at o3
              obtain ⟨m, hm⟩ : ∃ m, (kindsOf x.op).length = m := ⟨_, rfl⟩
              have hm4 := kinds_few x.op
              rw [hm] at hm4
              have HM := Lib.hid hm
              have HKn := Lib.hid (refKinds_any x.op wr)
              unfold Kinds at HKn
              rw [hm] at HKn
              obtain ⟨D0, hD0⟩ : ∃ D0, decide ((k : Int) ∈ tgL (o.code.take j)) = D0 := ⟨_, rfl⟩
              have HD0 := Lib.hid hD0
              rw [hD0]
              clear hx hb2 hc2 e2 hm hD0
              go_wp2_with fail
              refine HKn.out.mono ?_
              rintro e w4 ⟨A, ck, rfl, hN, k4⟩
              have HN := Lib.hid hN
              have HK4 := Lib.hid (HKr.out.trans k4)
              clear hN k4 r0 o3 HKr HRr HKn
              have HRw := Lib.hid (HR5.out.keep0 HK4.out)
              obtain ⟨w9, hw9⟩ : ∃ w9, w9 = wr := ⟨wr, rfl⟩
              subst hw9
              go_wp2_with fail
              go_loopw [6, 9] (fun v6 ix wr => ∃ l : Nat, l ≤ m ∧ ix = .int .i64 l ∧ v6 = .bool (decide ((k : Int) ∈ tgL (o.code.take j) ++ tgI x l)) ∧ Keeps w4 wr []) (fun _ ix _ => m - (intOf ix).toNat)
              case atStart => exact ⟨0, Nat.zero_le _, rfl, by rw [tgI_nil, List.append_nil, HD0.out], Keeps.refl _ _⟩
              case round =>
                obtain ⟨l, hl, rfl, rfl, kr⟩ := hrel
                have HKr := Lib.hid kr
                have HRr := Lib.hid (HRw.out.keep0 kr)
                clear kr
                by_cases hll : l < m
                · obtain ⟨b7, off7, y, hA7, hb7, hc7, hy⟩ := HN.out l (by rw [HM.out]; exact hll)
                  subst hA7
                  have q1 := (HKr.out.cell (p := ⟨b7, off7 + l, none⟩) hb7 (by simp)).trans hc7
                  have HY := Lib.hid hy
                  have ha := (HRr.out.keep.cell0 (HB2l.out)).trans (HAr.out l (by omega))
                  rw [← Nat.add_assoc] at ha
                  have o3 := HO3.out wr HRr.out.keep
                  have e1 : (l : Int) < (m : Int) := by omega
                  have e0 : (0 : Int) ≤ (l : Int) := Int.natCast_nonneg _
                  have e4 : (l : Int) < 4 := by omega
                  obtain ⟨g, hg⟩ : ∃ g, x.arg l = g := ⟨_, rfl⟩
                  rw [hg] at ha
                  have HGg := Lib.hid hg
                  clear hb7 hc7 hy hg
                  cases hD : decide ((k : Int) ∈ tgL (o.code.take j) ++ tgI x l) with
                  | true =>
                    have HV : Hid (decide ((k : Int) ∈ tgL (o.code.take j) ++ tgI x (l + 1)) = true) := Lib.hid (by
                      by_cases h8 : y = 8
                      · rw [tgI_yes (by rw [HY.out, h8]), hD]; rfl
                      · rw [tgI_succ_no HY.out h8]; exact hD)
                    clear hD
                    go_wp2_with fail
                    go_roundw
                    case rel => exact ⟨l + 1, by omega, by go_num, by rw [HV.out], HKr.out⟩
                    case measure => simp [intOf]; omega
                  | false =>
                    by_cases h8 : y = 8
                    · have d8 : (y == 8) = true := by simpa using h8
                      have HV : Hid (decide ((k : Int) ∈ tgL (o.code.take j) ++ tgI x (l + 1)) = (g == (k : Int))) := Lib.hid (by
                        rw [tgI_yes (by rw [HY.out, h8]), hD, HGg.out, Bool.false_or]
                        rfl)
                      clear hD h8
                      cases hgk : (g == (k : Int)) with
                      | true =>
                        rw [hgk] at HV
                        go_wp2_with fail
                        go_roundw
                        case rel => exact ⟨l + 1, by omega, by go_num, by rw [HV.out], HKr.out⟩
                        case measure => simp [intOf]; omega
                      | false =>
                        rw [hgk] at HV
                        go_wp2_with fail
                        go_roundw
                        case rel => exact ⟨l + 1, by omega, by go_num, by rw [HV.out], HKr.out⟩
                        case measure => simp [intOf]; omega
                    · have d8 : (y == 8) = false := by simpa using h8
                      have HV : Hid (decide ((k : Int) ∈ tgL (o.code.take j) ++ tgI x (l + 1)) = false) := Lib.hid (by rw [tgI_succ_no HY.out h8]; exact hD)
                      clear hD h8
                      go_wp2_with fail
                      go_roundw
                      case rel => exact ⟨l + 1, by omega, by go_num, by rw [HV.out], HKr.out⟩
                      case measure => simp [intOf]; omega
                · obtain rfl : m = l := by omega
                  have HT2 : Hid (tgL (o.code.take j) ++ tgI x m = tgL (o.code.take (j + 1))) := Lib.hid (by rw [tgL_snoc HX.out, HM.out])
                  rw [HT2.out]
                  obtain ⟨D2, hD2⟩ : ∃ D2, decide ((k : Int) ∈ tgL (o.code.take (j + 1))) = D2 := ⟨_, rfl⟩
                  have HD2 := Lib.hid hD2
                  rw [hD2]
                  clear hD2 HT2
                  have HK9 := Lib.hid (HK4.out.trans HKr.out)
                  go_wp2_with fail
                  go_roundw
                  case rel => exact ⟨j + 1, by omega, by go_num, by rw [HD2.out], HK9.out⟩
                  case measure => simp [intOf]; omega
            · obtain rfl : nc = j := by omega
              rw [List.take_of_length_le (by rw [HLc.out]; exact Nat.le_refl _)]
              obtain ⟨D1, hD1⟩ : ∃ D1, decide ((k : Int) ∈ tgL o.code) = D1 := ⟨_, rfl⟩
              rw [hD1]
              have HR5b := HRr
              clear HR5 hj hlj HKr
              obtain ⟨w5, hw5⟩ : ∃ w5, w5 = wr := ⟨wr, rfl⟩
              subst hw5
              have HR5 := HR5b
              have HTg := Lib.hid (target_is o k)
              rw [hD1] at HTg
              clear hD1
              cases D1 with
              | true =>
                have HLs : Hid (linesFrom o 0 (o.code.take (k + 1)) = l5 ++ [64 :: Lib.decDigits k] ++ [textT o i]) := Lib.hid (by rw [HSn.out, HLT.out, HTg.out, if_pos rfl]; simp)
                have HIt := Lib.hid (numD_any k w5 (by omega))
                have ha := txt_at k (by omega)
                go_wp2_with fail
                refine HIt.out.mono ?_
                rintro e w7 ⟨rfl, k7⟩
                have HK7 := Lib.hid k7
                clear k7 HIt
                go_upto_region 23 with (at_builtin; have K7 := HK7.out.alloc (.cells #[.string (stB (64 :: Lib.decDigits k))] 9); refine wpList_app _ el_atomA rfl (.tmp 95) (.tmp 99) rfl w2.heap.size OA5 n5 c5 ((l5.map stB).flatMap strE) rfl (own_keep0 HR5.out.own K7) (some ⟨w7.heap.size, 0, none⟩) 1 1 (strE (stB (64 :: Lib.decDigits k))) rfl (Rd.one w7 _ (strE (stB (64 :: Lib.decDigits k)))) rfl (by simp) (by simp [strE, Value.oneCell']) (by have := HN5.out; omega) (Nat.le_trans HR5.out.keep.size K7.size) ?_; intro A8 c8 w8' hown hgrow _; have HR8 := Lib.hid (HR5.out.app K7 hown hgrow); clear hown hgrow K7)
                have HNL : Hid (n5 + 1 ≤ 200000 * k + 100002) := Lib.hid (by have := HN5.out; omega)
                clear ha
                have HF23 : Hid (∀ W, Keeps w2 W [] → (W.cell? ⟨w.heap.size, 0, none⟩ = some (.slice Aa na ca) ∧ W.cell? ⟨w.heap.size, 1, none⟩ = some (.slice Af nf cf) ∧ W.cell? ⟨w.heap.size, 2, none⟩ = some (.slice Ap np cp) ∧ W.cell? ⟨w.heap.size, 3, none⟩ = some (.slice (some ⟨b, off, none⟩) nc cc)) ∧ W.cell? ⟨b, off + k * 5, none⟩ = some (.int .i64 i.op) ∧ W.cell? ⟨b, off + k * 5 + 1, none⟩ = some (.int .i64 i.a0) ∧ W.cell? ⟨b, off + k * 5 + 2, none⟩ = some (.int .i64 i.a1) ∧ W.cell? ⟨b, off + k * 5 + 3, none⟩ = some (.int .i64 i.a2) ∧ W.cell? ⟨b, off + k * 5 + 4, none⟩ = some (.int .i64 i.a3)) := HFi.out
                have HTx0 := HTxt.out w8'.drew HR8.out.keep.drew
                rw [HAc.out] at HTx0
                have HTx := Lib.hid HTx0
                clear HTx0
                go_upto_region 23 with fail
                refine wp_region_tx (fun W' => (W'.cell? ⟨w.heap.size, 0, none⟩ = some (.slice Aa na ca) ∧ W'.cell? ⟨w.heap.size, 1, none⟩ = some (.slice Af nf cf) ∧ W'.cell? ⟨w.heap.size, 2, none⟩ = some (.slice Ap np cp) ∧ W'.cell? ⟨w.heap.size, 3, none⟩ = some (.slice (some ⟨b, off, none⟩) nc cc)) ∧ W'.cell? ⟨b, off + k * 5, none⟩ = some (.int .i64 i.op) ∧ W'.cell? ⟨b, off + k * 5 + 1, none⟩ = some (.int .i64 i.a0) ∧ W'.cell? ⟨b, off + k * 5 + 2, none⟩ = some (.int .i64 i.a1) ∧ W'.cell? ⟨b, off + k * 5 + 3, none⟩ = some (.int .i64 i.a2) ∧ W'.cell? ⟨b, off + k * 5 + 4, none⟩ = some (.int .i64 i.a3)) [(0, true), (1, true), (2, true), (3, true), (4, true), (5, true), (6, true), (7, false), (8, false), (9, false), (10, false)] (by kernel_rfl) (by kernel_rfl) (HF23.out _ HR8.out.keep.drew) (fun hHeld => ?_)
                (repeat (first | (refine wpTx_take (v := ?_) rfl (by assumption) ?_ (by rfl) ?_; rotate_left; (focus (intro w' hSw; (try dsimp only at hSw); go_simp; (try with_reducible rfl); done)); simp only [Act.put, List.setIfInBounds_toArray, List.set_cons_zero, List.set_cons_succ]) | (refine wpTx_skip rfl (by assumption) (by rfl) ?_; simp only [Act.put, List.setIfInBounds_toArray, List.set_cons_zero, List.set_cons_succ])))
                refine wpTx_go rfl (fun K hK => ?_)
                go_simp
                refine HTx.out.mono ?_
                rintro e w8 ⟨rfl, k8'⟩
                have HK8 : Hid (Keeps w8' w8 []) := (Keeps.refl w8' []).drew.trans k8'
                have HFw := Lib.hid (HF23.out w8 (HR8.out.keep.trans HK8.out))
                clear k8'
                refine hK.out _ _ ?_ ?_
                · exact HFw.out
                (clear hHeld; intro hHeld; clear hK K; (try simp only [Act.put, List.setIfInBounds_toArray, List.set_cons_zero, List.set_cons_succ]))
                (repeat (first | (refine wpTx_take (v := ?_) rfl (by assumption) ?_ (by rfl) ?_; rotate_left; (focus (intro w' hSw; (try dsimp only at hSw); go_simp; (try with_reducible rfl); done)); simp only [Act.put, List.setIfInBounds_toArray, List.set_cons_zero, List.set_cons_succ]) | (refine wpTx_skip rfl (by assumption) (by rfl) ?_; simp only [Act.put, List.setIfInBounds_toArray, List.set_cons_zero, List.set_cons_succ])))
                refine wpTx_go rfl (fun K hK => ?_)
                go_simp
                refine hK.out _ _ ?_ ?_
                · exact HF23.out _ ((HR8.out.keep.trans HK8.out).alloc _)
                (clear hHeld; intro hHeld; clear hK K; (try simp only [Act.put, List.setIfInBounds_toArray, List.set_cons_zero, List.set_cons_succ]))
                refine wpTx_go rfl (fun K hK => ?_)
                have K9 : Keeps w8' (w8.alloc (.cells #[.string (stB (textT o i))] 9)) [] := HK8.out.alloc _
                refine step_app _ el_atomA (by rfl) _ _ (by rfl) w2.heap.size A8 (n5 + 1) c8 (((l5 ++ [64 :: Lib.decDigits k]).map stB).flatMap strE) (by rfl) (own_keep0 HR8.out.own K9) (some ⟨w8.heap.size, 0, none⟩) 1 1 (strE (stB (textT o i))) (by rfl) (Rd.one w8 _ (strE (stB (textT o i)))) rfl (by simp) (by simp [strE, Value.oneCell']) (by have := HNL.out; omega) (Nat.le_trans HR8.out.keep.size K9.size) ?_
                intro A9 c9 w9 hown hgrow _
                have HR9 := Lib.hid (HR8.out.app K9 hown hgrow)
                have HFx := Lib.hid (HF23.out w9 HR9.out.keep)
                clear hown hgrow K9
                refine hK.out _ _ ?_ ?_
                · exact HFx.out
                (clear hHeld; intro hHeld; clear hK K; (try simp only [Act.put, List.setIfInBounds_toArray, List.set_cons_zero, List.set_cons_succ]))
                refine wpTx_last rfl (fun K hK => ?_)
                go_simp
                refine hK.out _ _ (NoPanic.normal ?_); clear hK K; (try simp only [Act.put, List.setIfInBounds_toArray, List.set_cons_zero, List.set_cons_succ])
                clear hHeld HF23 HFw HFx HK8
                go_wp2_with fail
                go_roundw
                case rel => exact ⟨k + 1, by omega, by go_num, A9, (n5 + 1) + 1, c9, by rfl, by have := HNL.out; omega, by rw [HLs.out]; exact HR9.out⟩
                case measure => simp [intOf]; omega
              | false =>
                have HLs : Hid (linesFrom o 0 (o.code.take (k + 1)) = l5 ++ [textT o i]) := Lib.hid (by rw [HSn.out, HLT.out, HTg.out, if_neg Bool.false_ne_true]; simp)
                have HNL : Hid (n5 ≤ 200000 * k + 100002) := Lib.hid (by have := HN5.out; omega)
                have HF23 : Hid (∀ W, Keeps w2 W [] → (W.cell? ⟨w.heap.size, 0, none⟩ = some (.slice Aa na ca) ∧ W.cell? ⟨w.heap.size, 1, none⟩ = some (.slice Af nf cf) ∧ W.cell? ⟨w.heap.size, 2, none⟩ = some (.slice Ap np cp) ∧ W.cell? ⟨w.heap.size, 3, none⟩ = some (.slice (some ⟨b, off, none⟩) nc cc)) ∧ W.cell? ⟨b, off + k * 5, none⟩ = some (.int .i64 i.op) ∧ W.cell? ⟨b, off + k * 5 + 1, none⟩ = some (.int .i64 i.a0) ∧ W.cell? ⟨b, off + k * 5 + 2, none⟩ = some (.int .i64 i.a1) ∧ W.cell? ⟨b, off + k * 5 + 3, none⟩ = some (.int .i64 i.a2) ∧ W.cell? ⟨b, off + k * 5 + 4, none⟩ = some (.int .i64 i.a3)) := HFi.out
                have HTx0 := HTxt.out w5.drew HR5.out.keep.drew
                rw [HAc.out] at HTx0
                have HTx := Lib.hid HTx0
                clear HTx0
                go_upto_region 23 with fail
                refine wp_region_tx (fun W' => (W'.cell? ⟨w.heap.size, 0, none⟩ = some (.slice Aa na ca) ∧ W'.cell? ⟨w.heap.size, 1, none⟩ = some (.slice Af nf cf) ∧ W'.cell? ⟨w.heap.size, 2, none⟩ = some (.slice Ap np cp) ∧ W'.cell? ⟨w.heap.size, 3, none⟩ = some (.slice (some ⟨b, off, none⟩) nc cc)) ∧ W'.cell? ⟨b, off + k * 5, none⟩ = some (.int .i64 i.op) ∧ W'.cell? ⟨b, off + k * 5 + 1, none⟩ = some (.int .i64 i.a0) ∧ W'.cell? ⟨b, off + k * 5 + 2, none⟩ = some (.int .i64 i.a1) ∧ W'.cell? ⟨b, off + k * 5 + 3, none⟩ = some (.int .i64 i.a2) ∧ W'.cell? ⟨b, off + k * 5 + 4, none⟩ = some (.int .i64 i.a3)) [(0, true), (1, true), (2, true), (3, true), (4, true), (5, true), (6, true), (7, false), (8, false), (9, false), (10, false)] (by kernel_rfl) (by kernel_rfl) (HF23.out _ HR5.out.keep.drew) (fun hHeld => ?_)
                (repeat (first | (refine wpTx_take (v := ?_) rfl (by assumption) ?_ (by rfl) ?_; rotate_left; (focus (intro w' hSw; (try dsimp only at hSw); go_simp; (try with_reducible rfl); done)); simp only [Act.put, List.setIfInBounds_toArray, List.set_cons_zero, List.set_cons_succ]) | (refine wpTx_skip rfl (by assumption) (by rfl) ?_; simp only [Act.put, List.setIfInBounds_toArray, List.set_cons_zero, List.set_cons_succ])))
                refine wpTx_go rfl (fun K hK => ?_)
                go_simp
                refine HTx.out.mono ?_
                rintro e w8 ⟨rfl, k8'⟩
                have HK8 : Hid (Keeps w5 w8 []) := (Keeps.refl w5 []).drew.trans k8'
                have HFw := Lib.hid (HF23.out w8 (HR5.out.keep.trans HK8.out))
                clear k8'
                refine hK.out _ _ ?_ ?_
                · exact HFw.out
                (clear hHeld; intro hHeld; clear hK K; (try simp only [Act.put, List.setIfInBounds_toArray, List.set_cons_zero, List.set_cons_succ]))
                (repeat (first | (refine wpTx_take (v := ?_) rfl (by assumption) ?_ (by rfl) ?_; rotate_left; (focus (intro w' hSw; (try dsimp only at hSw); go_simp; (try with_reducible rfl); done)); simp only [Act.put, List.setIfInBounds_toArray, List.set_cons_zero, List.set_cons_succ]) | (refine wpTx_skip rfl (by assumption) (by rfl) ?_; simp only [Act.put, List.setIfInBounds_toArray, List.set_cons_zero, List.set_cons_succ])))
                refine wpTx_go rfl (fun K hK => ?_)
                go_simp
                refine hK.out _ _ ?_ ?_
                · exact HF23.out _ ((HR5.out.keep.trans HK8.out).alloc _)
                (clear hHeld; intro hHeld; clear hK K; (try simp only [Act.put, List.setIfInBounds_toArray, List.set_cons_zero, List.set_cons_succ]))
                refine wpTx_go rfl (fun K hK => ?_)
                have K9 : Keeps w5 (w8.alloc (.cells #[.string (stB (textT o i))] 9)) [] := HK8.out.alloc _
                refine step_app _ el_atomA (by rfl) _ _ (by rfl) w2.heap.size OA5 n5 c5 ((l5.map stB).flatMap strE) (by rfl) (own_keep0 HR5.out.own K9) (some ⟨w8.heap.size, 0, none⟩) 1 1 (strE (stB (textT o i))) (by rfl) (Rd.one w8 _ (strE (stB (textT o i)))) rfl (by simp) (by simp [strE, Value.oneCell']) (by have := HNL.out; omega) (Nat.le_trans HR5.out.keep.size K9.size) ?_
                intro A9 c9 w9 hown hgrow _
                have HR9 := Lib.hid (HR5.out.app K9 hown hgrow)
                have HFx := Lib.hid (HF23.out w9 HR9.out.keep)
                clear hown hgrow K9
                refine hK.out _ _ ?_ ?_
                · exact HFx.out
                (clear hHeld; intro hHeld; clear hK K; (try simp only [Act.put, List.setIfInBounds_toArray, List.set_cons_zero, List.set_cons_succ]))
                refine wpTx_last rfl (fun K hK => ?_)
                go_simp
                refine hK.out _ _ (NoPanic.normal ?_); clear hK K; (try simp only [Act.put, List.setIfInBounds_toArray, List.set_cons_zero, List.set_cons_succ])
                clear hHeld HF23 HFw HFx HK8
                go_wp2_with fail
                go_roundw
                case rel => exact ⟨k + 1, by omega, by go_num, A9, n5 + 1, c9, by rfl, by have := HNL.out; omega, by rw [HLs.out]; exact HR9.out⟩
                case measure => simp [intOf]; omega
    · obtain rfl : nc = k := by omega
      have HV : Hid (linesFrom o 0 (o.code.take nc) = linesE o) := Lib.hid (by rw [List.take_of_length_le (by rw [HLc.out]; exact Nat.le_refl _), HLE2.out]; rfl)
      rw [HV.out] at HR
      have HLn := Lib.hid HR.out.len
      go_wp2_with fail
      go_ret
      refine ⟨OA, oc, by rw [HLn.out]; rfl, Rd.of_own HR.out.own, HK02.out.trans HR.out.keep, fun e => by have := HR.out.own; rw [e] at this; exact own_nilA this⟩
end Go.Proofs.YtpcihhdalofdiaaGreatDoor

/- AsmLines, walked. Printed by gen_asmlines.py. -/
namespace Go.Proofs.YtpcihhdalofdiaaGreatDoor
open Go.RowKit Go.Maps
attribute [local irreducible] checkE linesT

theorem linesE_few (o : LObj) : (linesE o).length ≤ 3 * o.code.length := by
  unfold linesE
  split
  · simp
  · unfold linesT
    exact linesFrom_few o o.code 0
set_option maxRecDepth 100000 in
set_option maxHeartbeats 12800000 in
theorem asmLines_any (o : LObj) (Aa Af Ap Ac : Option Addr) (na nf np nc ca cf cp cc : Nat) (w : World) (hob : ObIs w o Aa Af Ap Ac ca cf cp cc) (la : o.atoms.length = na) (lf : o.funs.length = nf) (lp : o.preds.length = np) (lc : o.code.length = nc) (h : St w) :
    Calls Tryz.prog 4 #[.agg #[.slice Aa na ca, .slice Af nf cf, .slice Ap np cp, .slice Ac nc cc]] w fun e w' => e = .returned (.bool true) ∧ Keeps w w' [] := by
  have k0 : Keeps w (w.alloc (.cells #[.slice Aa na ca, .slice Af nf cf, .slice Ap np cp, .slice Ac nc cc] 39)) [] := (Keeps.refl w []).alloc _
  have HOb : Hid (Blk (w.alloc (.cells #[.slice Aa na ca, .slice Af nf cf, .slice Ap np cp, .slice Ac nc cc] 39)) w.heap.size 39 #[.slice Aa na ca, .slice Af nf cf, .slice Ap np cp, .slice Ac nc cc]) := Blk.new _ _ _
  have HS1 := Lib.hid (h.keep k0)
  have HK0 := Lib.hid k0
  have HO := Lib.hid (hob.keep k0)
  have x0 := HOb.out.cell 0
  have x1 := HOb.out.cell 1
  have x2 := HOb.out.cell 2
  have x3 := HOb.out.cell 3
  have HLa := Lib.hid la
  have HLf := Lib.hid lf
  have HLp := Lib.hid lp
  have HLc := Lib.hid lc
  clear k0 h hob la lf lp lc
  cases d0 : decide (60 < (nc : Int)) with
  | true =>
    go_enter Tryz.func4, Tryz.ntmps4
    go_wp2_with fail
    refine (told9_any _ HS1.out).mono ?_
    rintro e w2 ⟨rfl, k2⟩
    go_wp2_with fail
    go_ret
    exact ⟨rfl, HK0.out.trans k2⟩
  | false =>
  cases d1 : decide (70 < (np : Int)) with
  | true =>
    go_enter Tryz.func4, Tryz.ntmps4
    go_wp2_with fail
    refine (told9_any _ HS1.out).mono ?_
    rintro e w2 ⟨rfl, k2⟩
    go_wp2_with fail
    go_ret
    exact ⟨rfl, HK0.out.trans k2⟩
  | false =>
  cases d2 : decide (300 < (na : Int)) with
  | true =>
    go_enter Tryz.func4, Tryz.ntmps4
    go_wp2_with fail
    refine (told9_any _ HS1.out).mono ?_
    rintro e w2 ⟨rfl, k2⟩
    go_wp2_with fail
    go_ret
    exact ⟨rfl, HK0.out.trans k2⟩
  | false =>
  cases d3 : decide (300 < (nf : Int)) with
  | true =>
    go_enter Tryz.func4, Tryz.ntmps4
    go_wp2_with fail
    refine (told9_any _ HS1.out).mono ?_
    rintro e w2 ⟨rfl, k2⟩
    go_wp2_with fail
    go_ret
    exact ⟨rfl, HK0.out.trans k2⟩
  | false =>
    have hc : nc ≤ 60 := by have := of_decide_eq_false d0; omega
    have hp : np ≤ 70 := by have := of_decide_eq_false d1; omega
    have ha : na ≤ 300 := by have := of_decide_eq_false d2; omega
    have hf : nf ≤ 300 := by have := of_decide_eq_false d3; omega
    have HFit : Hid (Fits o) := Lib.hid ⟨by rw [HLa.out]; omega, by rw [HLf.out]; omega, by rw [HLp.out]; omega, by rw [HLc.out]; omega⟩
    have HLl := Lib.hid (linesE_few o)
    have HCells : Hid (∀ W, Keeps (w.alloc (.cells #[.slice Aa na ca, .slice Af nf cf, .slice Ap np cp, .slice Ac nc cc] 39)) W [] → W.cell? ⟨w.heap.size, 0, none⟩ = some (.slice Aa na ca) ∧ W.cell? ⟨w.heap.size, 1, none⟩ = some (.slice Af nf cf) ∧ W.cell? ⟨w.heap.size, 2, none⟩ = some (.slice Ap np cp) ∧ W.cell? ⟨w.heap.size, 3, none⟩ = some (.slice Ac nc cc)) := fun W kk => ⟨(HOb.out.keep kk (by simp)).cell 0, (HOb.out.keep kk (by simp)).cell 1, (HOb.out.keep kk (by simp)).cell 2, (HOb.out.keep kk (by simp)).cell 3⟩
    go_enter Tryz.func4, Tryz.ntmps4
    go_upto_region 3 with fail
    clear x0 x1 x2 x3 d0 d1 d2 d3
    generalize w.alloc (.cells #[.slice Aa na ca, .slice Af nf cf, .slice Ap np cp, .slice Ac nc cc] 39) = w0 at *
    refine wp_region_tx (fun W' => W'.cell? ⟨w.heap.size, 0, none⟩ = some (.slice Aa na ca) ∧ W'.cell? ⟨w.heap.size, 1, none⟩ = some (.slice Af nf cf) ∧ W'.cell? ⟨w.heap.size, 2, none⟩ = some (.slice Ap np cp) ∧ W'.cell? ⟨w.heap.size, 3, none⟩ = some (.slice Ac nc cc)) [(0, false), (1, true), (2, true), (5, true), (3, false), (4, false), (6, false), (7, false), (8, true), (9, false)] (by kernel_rfl) (by kernel_rfl) (HCells.out _ (Keeps.refl _ _).drew) (fun hHeld => ?_)
    refine wpTx_go rfl (fun K hK => ?_)
    go_simp
    refine (told9_any _ (HS1.out.keep (Keeps.refl _ _).drew)).mono ?_
    rintro e w1 ⟨rfl, k1'⟩
    have HK1 : Hid (Keeps w0 w1 []) := (Keeps.refl w0 []).drew.trans k1'
    have HC1 := Lib.hid (HCells.out _ HK1.out)
    clear k1'
    refine hK.out _ _ ?_ ?_
    · exact HC1.out
    (clear hHeld; intro hHeld; clear hK K; (try simp only [Act.put, List.setIfInBounds_toArray, List.set_cons_zero, List.set_cons_succ]))
    (repeat (first | (refine wpTx_take (v := ?_) rfl (by assumption) ?_ (by rfl) ?_; rotate_left; (focus (intro w' hSw; (try dsimp only at hSw); go_simp; (try with_reducible rfl); done)); simp only [Act.put, List.setIfInBounds_toArray, List.set_cons_zero, List.set_cons_succ]) | (refine wpTx_skip rfl (by assumption) (by rfl) ?_; simp only [Act.put, List.setIfInBounds_toArray, List.set_cons_zero, List.set_cons_succ])))
    refine wpTx_go rfl (fun K hK => ?_)
    go_simp
    refine (to_any o Aa Af Ap Ac na nf np nc ca cf cp cc w1 (HO.out.keep HK1.out) HFit.out HLa.out HLf.out HLp.out HLc.out).mono ?_
    rintro e w2 ⟨Ba, Bf, Bp, Bc, da, df, dp, dc, rfl, hob2, k2⟩
    have HO2 := Lib.hid hob2
    have HK2 := Lib.hid (HK1.out.trans k2)
    have HC2 := Lib.hid (HCells.out _ HK2.out)
    clear k2 hob2
    refine hK.out _ _ ?_ ?_
    · exact HC2.out
    (clear hHeld; intro hHeld; clear hK K; (try simp only [Act.put, List.setIfInBounds_toArray, List.set_cons_zero, List.set_cons_succ]))
    refine wpTx_go rfl (fun K hK => ?_)
    go_simp
    refine (linesA_any o Ba Bf Bp Bc _ _ _ _ da df dp dc w2 HO2.out HFit.out rfl rfl rfl rfl (HS1.out.keep HK2.out)).mono ?_
    rintro e w3 ⟨X, xc, rfl, hx, k3, _⟩
    have HX := Lib.hid hx
    have HK3 := Lib.hid (HK2.out.trans k3)
    have HC3 := Lib.hid (HCells.out _ HK3.out)
    clear k3 hx
    refine hK.out _ _ ?_ ?_
    · exact HC3.out
    (clear hHeld; intro hHeld; clear hK K; (try simp only [Act.put, List.setIfInBounds_toArray, List.set_cons_zero, List.set_cons_succ]))
    refine wpTx_go rfl (fun K hK => ?_)
    go_simp
    refine (refLines_any o Aa Af Ap Ac na nf np nc ca cf cp cc w3 (HO.out.keep HK3.out) HFit.out HLa.out HLf.out HLp.out HLc.out).mono ?_
    rintro e w4 ⟨Y, yc, rfl, hy, k4, _⟩
    have HY := Lib.hid hy
    have HX4 := Lib.hid (HX.out.keep k4)
    have HK4 := Lib.hid (HK3.out.trans k4)
    have HC4 := Lib.hid (HCells.out _ HK4.out)
    clear k4 hy
    refine hK.out _ _ ?_ ?_
    · exact HC4.out
    (clear hHeld; intro hHeld; clear hK K; (try simp only [Act.put, List.setIfInBounds_toArray, List.set_cons_zero, List.set_cons_succ]))
    refine wpTx_go rfl (fun K hK => ?_)
    go_simp
    refine (strings9_any ((linesE o).map stB) ((linesE o).map stB) X Y _ _ xc yc w4 (List.length_map _) (List.length_map _) (by have := HLl.out; have := HLc.out; omega) HX4.out HY.out).mono ?_
    rintro e w5 ⟨rfl, k5⟩
    rw [decide_eq_true rfl]
    have HK5 := Lib.hid (HK4.out.trans k5)
    have HC5 := Lib.hid (HCells.out _ HK5.out)
    clear k5
    refine hK.out _ _ ?_ ?_
    · exact HC5.out
    (clear hHeld; intro hHeld; clear hK K; (try simp only [Act.put, List.setIfInBounds_toArray, List.set_cons_zero, List.set_cons_succ]))
    (repeat (first | (refine wpTx_take (v := ?_) rfl (by assumption) ?_ (by rfl) ?_; rotate_left; (focus (intro w' hSw; (try dsimp only at hSw); go_simp; (try with_reducible rfl); done)); simp only [Act.put, List.setIfInBounds_toArray, List.set_cons_zero, List.set_cons_succ]) | (refine wpTx_skip rfl (by assumption) (by rfl) ?_; simp only [Act.put, List.setIfInBounds_toArray, List.set_cons_zero, List.set_cons_succ])))
    refine wpTx_last rfl (fun K hK => ?_)
    go_simp
    refine hK.out _ _ (NoPanic.normal ?_); clear hK K; (try simp only [Act.put, List.setIfInBounds_toArray, List.set_cons_zero, List.set_cons_succ])
    clear hHeld
    go_wp2_with fail
    go_ret
    exact ⟨rfl, HK0.out.trans HK5.out⟩
end Go.Proofs.YtpcihhdalofdiaaGreatDoor
