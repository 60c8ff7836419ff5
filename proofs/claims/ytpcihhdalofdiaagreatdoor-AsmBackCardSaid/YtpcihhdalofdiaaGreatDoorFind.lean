/- Find: the program's, the document's. -/
import Derived.Test.YtpcihhdalofdiaaGreatDoorObjTabB
namespace Go.Proofs.YtpcihhdalofdiaaGreatDoor
open Go.RowKit
attribute [local irreducible] kindsOf nameOf bigB checkE

def isKey (nm : ByteArray) (ar : Int) (p : LPred) : Bool := decide (p.name = nm) && decide (p.arity = ar)
theorem isKey_yes {nm : ByteArray} {ar : Int} {p : LPred} (h : p.name = nm) (h2 : p.arity = ar) : isKey nm ar p = true := by simp [isKey, h, h2]
theorem isKey_no1 {nm : ByteArray} {ar : Int} {p : LPred} (h : ¬ p.name = nm) : isKey nm ar p = false := by simp [isKey, h]
theorem isKey_no2 {nm : ByteArray} {ar : Int} {p : LPred} (h : ¬ p.arity = ar) : isKey nm ar p = false := by simp [isKey, h]

theorem findPred_any (x : LPred) (nm : ByteArray) (ar : Int) (g1 g2 : Nat) (t1 t2 : TypeId) (w : World) (h1 : Blk w g1 t1 #[.string nm]) (h2 : Blk w g2 t2 #[.int .i64 ar]) :
    Calls Tryz.prog 130 #[.agg #[.string x.name, .int .i64 x.arity, .int .i64 x.entry], .pointer (some ⟨g1, 0, none⟩), .pointer (some ⟨g2, 0, none⟩)] w fun e w' => e = .returned (.bool (isKey nm ar x)) ∧ Keeps w w' [] := by
  have k1 := (h1.alloc (.cells #[.string x.name, .int .i64 x.arity, .int .i64 x.entry] 52)).cell 0
  have k2 := (h2.alloc (.cells #[.string x.name, .int .i64 x.arity, .int .i64 x.entry] 52)).cell 0
  clear h1 h2
  by_cases n1 : x.name = nm
  · have e1 : (x.name.toList == nm.toList) = true := str_beq n1
    by_cases n2 : x.arity = ar
    · have e2 : (x.arity == ar) = true := by simpa using n2
      have HV := Lib.hid (isKey_yes n1 n2)
      clear n1 n2
      go_enter Tryz.func130, Tryz.ntmps130
      go_wp2_with fail
      go_ret
      exact ⟨by rw [HV.out]; rfl, (Keeps.refl _ _).alloc _⟩
    · have e2 : (x.arity == ar) = false := by simpa using n2
      have HV := Lib.hid (isKey_no2 (nm := nm) n2)
      clear n1 n2
      go_enter Tryz.func130, Tryz.ntmps130
      go_wp2_with fail
      go_ret
      exact ⟨by rw [HV.out]; rfl, (Keeps.refl _ _).alloc _⟩
  · have e1 : (x.name.toList == nm.toList) = false := str_bne n1
    have HV := Lib.hid (isKey_no1 (ar := ar) n1)
    clear n1
    go_enter Tryz.func130, Tryz.ntmps130
    go_wp2_with fail
    go_ret
    exact ⟨by rw [HV.out]; rfl, (Keeps.refl _ _).alloc _⟩

set_option maxHeartbeats 1600000 in
theorem indexPred_any (A : Option Addr) (n c : Nat) (l : List LPred) (nm : ByteArray) (ar : Int) (g1 g2 : Nat) (t1 t2 : TypeId) (w : World) (hl : l.length = n) (hn : n ≤ 65536) (hA : Rd w A (l.flatMap predE)) (h1 : Blk w g1 t1 #[.string nm]) (h2 : Blk w g2 t2 #[.int .i64 ar]) :
    Calls Tryz.prog 32 #[.slice A n c, .func (.func 130) #[] #[.pointer (some ⟨g1, 0, none⟩), .pointer (some ⟨g2, 0, none⟩)]] w fun e w' => e = .returned (.int .i64 (findI (isKey nm ar) l)) ∧ Keeps w w' [] := by
  have HL := Lib.hid hl
  have HA := Lib.hid hA
  have HG1 := Lib.hid h1
  have HG2 := Lib.hid h2
  clear hl hA h1 h2
  go_enter Tryz.func32, Tryz.ntmps32
  go_wp2_with fail
  go_loopw [8] (fun i wr => ∃ k : Nat, k ≤ n ∧ i = .int .i64 k ∧ Hid (∀ y ∈ l.take k, isKey nm ar y = false) ∧ Keeps w wr []) (fun i _ => n - (intOf i).toNat)
  case atStart => exact ⟨0, Nat.zero_le _, rfl, fun y hy => by simp at hy, Keeps.refl _ _⟩
  case round =>
    obtain ⟨k, hk, rfl, HB, kr⟩ := hrel
    have HK := Lib.hid kr
    clear kr
    by_cases hlt : k < n
    · obtain ⟨x, hx⟩ := at_of HL.out hlt
      obtain ⟨b, off, rfl, hb, hc⟩ := (HA.out).field predE_len hx (by omega)
      have HX := Lib.hid hx
      have q0 : wr.cell? ⟨b, off + k * 3, none⟩ = some (.string x.name) := (HK.out.cell0 hb).trans (hc 0 _ rfl)
      have q1 : wr.cell? ⟨b, off + k * 3 + 1, none⟩ = some (.int .i64 x.arity) := (HK.out.cell0 hb).trans (hc 1 _ rfl)
      have q2 : wr.cell? ⟨b, off + k * 3 + 2, none⟩ = some (.int .i64 x.entry) := (HK.out.cell0 hb).trans (hc 2 _ rfl)
      have HC := Lib.hid (findPred_any x nm ar g1 g2 t1 t2 wr (HG1.out.keep HK.out (by simp)) (HG2.out.keep HK.out (by simp)))
      clear hx hc
      have b0 : (0 : Int) ≤ (k : Int) := Int.natCast_nonneg _
      have b1 : (k : Int) < (n : Int) := by omega
      cases hp : isKey nm ar x with
      | true =>
        have HI : Hid (findI (isKey nm ar) l = (k : Int)) := findI_some HX.out hp HB.out
        rw [hp] at HC
        clear hp
        go_wp2_with (go_at_call 130; refine HC.out.mono ?_; rintro e w' ⟨rfl, k2⟩)
        go_ret
        exact ⟨by rw [HI.out]; rfl, HK.out.trans k2⟩
      | false =>
        have HB2 : Hid (∀ y ∈ l.take (k + 1), isKey nm ar y = false) := take_snoc_all HX.out hp HB.out
        rw [hp] at HC
        clear hp
        go_wp2_with (go_at_call 130; refine HC.out.mono ?_; rintro e w' ⟨rfl, k2⟩)
        go_roundw
        case rel => exact ⟨k + 1, by omega, by go_num, HB2, HK.out.trans k2⟩
        case measure => simp [intOf]; omega
    · obtain rfl : n = k := by omega
      have HI : Hid (findI (isKey nm ar) l = -1) := findI_none (by have := HB.out; rwa [List.take_of_length_le (by rw [HL.out]; omega)] at this)
      go_wp2_with fail
      go_ret
      exact ⟨by rw [HI.out]; rfl, HK.out⟩
def FindCalls (f : FuncId) (o : LObj) (nm : ByteArray) (ar : Int) : Prop :=
  ∀ (Aa Af Ap Ac : Option Addr) (na nf np nc ca cf cp cc : Nat) (w : World), ObIs w o Aa Af Ap Ac ca cf cp cc → Fits o → o.atoms.length = na → o.funs.length = nf → o.preds.length = np → o.code.length = nc →
    Calls Tryz.prog f #[.agg #[.slice Aa na ca, .slice Af nf cf, .slice Ap np cp, .slice Ac nc cc], .string nm, .int .i64 ar] w (ErrTold (findI (isKey nm ar) o.preds) w)
set_option maxRecDepth 20000 in
set_option maxHeartbeats 1600000 in
theorem find_any (o : LObj) (nm : ByteArray) (ar : Int) : FindCalls 107 o nm ar := by
  intro Aa Af Ap Ac na nf np nc ca cf cp cc w h hf la lf lp lc
  have hmf : ∀ (fn : Fn) (first cap : Array Value) (w : World), (Instr.makeFunc fn first cap).run Tryz.prog w = .ok (.func fn first cap) w := fun _ _ _ _ => rfl
  obtain ⟨W, hW⟩ : ∃ W, ((w.alloc (.cells #[.slice Aa na ca, .slice Af nf cf, .slice Ap np cp, .slice Ac nc cc] 31)).alloc (.cells #[.string nm] 9)).alloc (.cells #[.int .i64 ar] 3) = W := ⟨_, rfl⟩
  have kW : Keeps w W [] := by rw [← hW]; exact (((Keeps.refl w []).alloc _).alloc _).alloc _
  have B1 : Blk W w.heap.size 31 #[.slice Aa na ca, .slice Af nf cf, .slice Ap np cp, .slice Ac nc cc] := by rw [← hW]; exact ((Blk.new w _ _).alloc _).alloc _
  have B2 : Blk W (w.heap.size + 1) 9 #[.string nm] := by rw [← hW]; exact (Blk.newAt _ _ (by simp)).alloc _
  have B3 : Blk W (w.heap.size + 1 + 1) 3 #[.int .i64 ar] := by rw [← hW]; exact Blk.newAt _ _ (by simp)
  have HC := Lib.hid (indexPred_any Ap np cp o.preds nm ar (w.heap.size + 1) (w.heap.size + 1 + 1) _ _ W lp (by have := hf.preds; omega) (h.preds.keep kW) B2 B3)
  have HK := Lib.hid kW
  have c1 := B1.cell 1
  rw [← hW] at c1 HC HK
  clear hW kW B1 B2 B3 h hf la lf lp lc W
  go_enter Tryz.func107, Tryz.ntmps107
  go_wp2_with fail
  refine HC.out.mono ?_
  rintro e w2 ⟨rfl, k2⟩
  go_wp2_with fail
  go_ret
  exact ⟨rfl, HK.out.trans k2⟩
set_option maxRecDepth 20000 in
set_option maxHeartbeats 1600000 in
theorem refFind_any (o : LObj) (nm : ByteArray) (ar : Int) : FindCalls 85 o nm ar := by
  intro Aa Af Ap Ac na nf np nc ca cf cp cc w h hf la lf lp lc
  have HL := Lib.hid lp
  have HA := Lib.hid h.preds
  have gp : np ≤ 65536 := by have := hf.preds; omega
  have HST : Hid (BoxSt w (w.alloc (.cells #[.slice Aa na ca, .slice Af nf cf, .slice Ap np cp, .slice Ac nc cc] 39)) w.heap.size 39 #[.slice Aa na ca, .slice Af nf cf, .slice Ap np cp, .slice Ac nc cc]) := ⟨Blk.new _ _ _, (Keeps.refl _ []).alloc _⟩
  clear h hf la lf lp lc
  go_enter Tryz.func85, Tryz.ntmps85
  go_wp2_with fail
  go_loopw [7] (fun i wr => ∃ k : Nat, k ≤ np ∧ i = .int .i64 k ∧ Hid (∀ y ∈ o.preds.take k, isKey nm ar y = false) ∧ BoxSt w wr w.heap.size 39 #[.slice Aa na ca, .slice Af nf cf, .slice Ap np cp, .slice Ac nc cc]) (fun i _ => np - (intOf i).toNat)
  case atStart => exact ⟨0, Nat.zero_le _, rfl, fun y hy => by simp at hy, HST.out⟩
  case round =>
    obtain ⟨k, hk, rfl, HB, st⟩ := hrel
    have HS := Lib.hid st
    have p1 := st.blk.cell 2
    clear st
    by_cases hlt : k < np
    · obtain ⟨x, hx⟩ := at_of HL.out hlt
      obtain ⟨b, off, rfl, hb, hc⟩ := (HA.out).field predE_len hx (by omega)
      have HX := Lib.hid hx
      have q0 : wr.cell? ⟨b, off + k * 3, none⟩ = some (.string x.name) := (HS.out.keep.cell0 hb).trans (hc 0 _ rfl)
      have q1 : wr.cell? ⟨b, off + k * 3 + 1, none⟩ = some (.int .i64 x.arity) := (HS.out.keep.cell0 hb).trans (hc 1 _ rfl)
      clear hx hc
      have b0 : (0 : Int) ≤ (k : Int) := Int.natCast_nonneg _
      have b1 : (k : Int) < (np : Int) := by omega
      by_cases n1 : x.name = nm
      · have e1 : (x.name.toList == nm.toList) = true := str_beq n1
        by_cases n2 : x.arity = ar
        · have e2 : (x.arity == ar) = true := by simpa using n2
          have HI : Hid (findI (isKey nm ar) o.preds = (k : Int)) := findI_some HX.out (isKey_yes n1 n2) HB.out
          clear n1 n2
          go_wp2_with fail
          go_ret
          exact ⟨by rw [HI.out]; rfl, HS.out.keep⟩
        · have e2 : (x.arity == ar) = false := by simpa using n2
          have HB2 : Hid (∀ y ∈ o.preds.take (k + 1), isKey nm ar y = false) := take_snoc_all HX.out (isKey_no2 n2) HB.out
          clear n1 n2
          go_wp2_with fail
          go_roundw
          case rel => exact ⟨k + 1, by omega, by go_num, HB2, HS.out⟩
          case measure => simp [intOf]; omega
      · have e1 : (x.name.toList == nm.toList) = false := str_bne n1
        have HB2 : Hid (∀ y ∈ o.preds.take (k + 1), isKey nm ar y = false) := take_snoc_all HX.out (isKey_no1 n1) HB.out
        clear n1
        go_wp2_with fail
        go_roundw
        case rel => exact ⟨k + 1, by omega, by go_num, HB2, HS.out⟩
        case measure => simp [intOf]; omega
    · obtain rfl : np = k := by omega
      have HI : Hid (findI (isKey nm ar) o.preds = -1) := findI_none (by have := HB.out; rwa [List.take_of_length_le (by rw [HL.out]; omega)] at this)
      go_wp2_with fail
      go_ret
      exact ⟨by rw [HI.out]; rfl, HS.out.keep⟩
end Go.Proofs.YtpcihhdalofdiaaGreatDoor
