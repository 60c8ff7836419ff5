/- The program's look at an object. -/
import Derived.Test.YtpcihhdalofdiaaGreatDoorObjLaw
import Derived.Test.YtpcihhdalofdiaaGreatDoorObjTo
namespace Go.Proofs.YtpcihhdalofdiaaGreatDoor
open Go.RowKit

def ObjCalls (f : FuncId) (o : LObj) (R : World → Ending → World → Prop) : Prop :=
  ∀ (Aa Af Ap Ac : Option Addr) (na nf np nc ca cf cp cc : Nat) (w : World), ObIs w o Aa Af Ap Ac ca cf cp cc → Fits o → o.atoms.length = na → o.funs.length = nf → o.preds.length = np → o.code.length = nc →
    Calls Tryz.prog f #[.agg #[.slice Aa na ca, .slice Af nf cf, .slice Ap np cp, .slice Ac nc cc]] w (R w)
def Told (b : Bool) (w : World) (e : Ending) (w' : World) : Prop := e = .returned (.bool b) ∧ Keeps w w' []

theorem namedB_atoms {o : LObj} (h : o.atoms.all nameOk = false) : namedB o = false := by simp [namedB, h]
theorem namedB_funs {o : LObj} (h : o.funs.all funOk = false) : namedB o = false := by simp [namedB, h]
theorem namedB_preds {o : LObj} (h : o.preds.all predOk = false) : namedB o = false := by simp [namedB, h]
theorem namedB_all {o : LObj} (h1 : o.atoms.all nameOk = true) (h2 : o.funs.all funOk = true) (h3 : o.preds.all predOk = true) : namedB o = true := by simp only [namedB, h1, h2, h3]; rfl
/-- What stands in a round: the object's box, and what was there. -/
structure BoxSt (w wr : World) (bx : Nat) (t : TypeId) (cs : Array Value) : Prop where
  blk : Blk wr bx t cs
  keep : Keeps w wr []
theorem BoxSt.go {w wr W : World} {bx : Nat} {t : TypeId} {cs : Array Value} (s : BoxSt w wr bx t cs) (k : Keeps wr W []) : BoxSt w W bx t cs := ⟨s.blk.keep k (by simp), s.keep.trans k⟩

set_option maxRecDepth 100000 in
set_option maxHeartbeats 1600000 in
theorem named_any (o : LObj) : ObjCalls 25 o (Told (namedB o)) := by
  intro Aa Af Ap Ac na nf np nc ca cf cp cc w h hf la lf lp lc
  have H := Lib.hid h
  have ga := hf.atoms
  have gf := hf.funs
  have gp := hf.preds
  rw [la] at ga
  rw [lf] at gf
  rw [lp] at gp
  have La := Lib.hid la
  have Lf := Lib.hid lf
  have Lp := Lib.hid lp
  clear h hf la lf lp lc
  go_enter Tryz.func25, Tryz.ntmps25
  go_wp2_with fail
  have st : BoxSt w (w.alloc (.cells #[.slice Aa na ca, .slice Af nf cf, .slice Ap np cp, .slice Ac nc cc] 31)) w.heap.size 31 #[.slice Aa na ca, .slice Af nf cf, .slice Ap np cp, .slice Ac nc cc] := ⟨Blk.new _ _ _, (Keeps.refl _ []).alloc _⟩
  have HST := Lib.hid st
  clear st
  go_loopw [13] (fun i wr => ∃ k : Nat, k ≤ na ∧ i = .int .i64 k ∧ Hid (∀ y ∈ o.atoms.take k, nameOk y = true) ∧ BoxSt w wr w.heap.size 31 #[.slice Aa na ca, .slice Af nf cf, .slice Ap np cp, .slice Ac nc cc]) (fun i _ => na - (intOf i).toNat)
  case atStart => exact ⟨0, Nat.zero_le _, rfl, fun y hy => by simp at hy, HST.out⟩
  case round =>
    obtain ⟨k, hk, rfl, HP, st⟩ := hrel
    have HS := Lib.hid st
    clear st HST
    by_cases hlt : k < na
    · obtain ⟨x, hx⟩ := at_of La.out hlt
      obtain ⟨b, off, rfl, hb, hc⟩ := (H.out.atoms).field strE_len hx (by omega)
      have HX := Lib.hid hx
      have q0 : wr.cell? ⟨b, off + k * 1, none⟩ = some _ := (HS.out.keep.cell0 hb).trans (hc 0 _ rfl)
      rw [Nat.mul_one] at q0
      clear hx hc
      have hcall := name_any x
      cases hv : nameOk x
      all_goals
        rw [hv] at hcall
        have HC := Lib.hid hcall
        clear hcall
      · have HI := Lib.hid (namedB_atoms (all_no HX.out hv))
        go_wp2_with (go_at_call 58; refine (HC.out _).mono ?_; rintro e w2 ⟨rfl, k2⟩)
        go_ret
        exact ⟨by rw [HI.out]; rfl, HS.out.keep.trans k2⟩
      · have HP2 := Lib.hid (take_all1 HX.out hv HP.out)
        go_wp2_with (go_at_call 58; refine (HC.out _).mono ?_; rintro e w2 ⟨rfl, k2⟩)
        go_roundw
        case rel => exact ⟨k + 1, by omega, by go_num, HP2.out, HS.out.go k2⟩
        case measure => simp [intOf]; omega
    · obtain rfl : na = k := by omega
      have HP1 := Lib.hid (all_of La.out HP.out)
      clear hlt hk HP
      have c1 := HS.out.blk.cell 1
      go_wp2_with fail
      clear c1
      go_loopw [25] (fun i wr => ∃ k : Nat, k ≤ nf ∧ i = .int .i64 k ∧ Hid (∀ y ∈ o.funs.take k, funOk y = true) ∧ BoxSt w wr w.heap.size 31 #[.slice Aa na ca, .slice Af nf cf, .slice Ap np cp, .slice Ac nc cc]) (fun i _ => nf - (intOf i).toNat)
      case atStart => exact ⟨0, Nat.zero_le _, rfl, fun y hy => by simp at hy, HS.out⟩
      case round =>
        obtain ⟨k, hk, rfl, HP, st⟩ := hrel
        clear HS
        have HS := Lib.hid st
        clear st
        by_cases hlt : k < nf
        · obtain ⟨x, hx⟩ := at_of Lf.out hlt
          obtain ⟨b, off, rfl, hb, hc⟩ := (H.out.funs).field funE_len hx (by omega)
          have HX := Lib.hid hx
          have q0 : wr.cell? ⟨b, off + k * 2, none⟩ = some _ := (HS.out.keep.cell0 hb).trans (hc 0 _ rfl)
          have q1 : wr.cell? ⟨b, off + k * 2 + 1, none⟩ = some _ := (HS.out.keep.cell0 hb).trans (hc 1 _ rfl)
          clear hx hc
          have hcall := name_any x.name
          have HF : Hid (funOk x = (nameOk x.name && (decide (1 ≤ x.arity) && decide (x.arity ≤ 8)))) := rfl
          cases hv : nameOk x.name
          all_goals
            rw [hv] at hcall HF
            have HC := Lib.hid hcall
            clear hcall
          · have HI := Lib.hid (namedB_funs (all_no HX.out HF.out))
            go_wp2_with (go_at_call 58; refine (HC.out _).mono ?_; rintro e w2 ⟨rfl, k2⟩)
            go_ret
            exact ⟨by rw [HI.out]; rfl, HS.out.keep.trans (((Keeps.refl _ []).alloc _).trans k2)⟩
          · by_cases a1 : x.arity < 1
            · have d1 : decide (x.arity < 1) = true := by simpa using a1
              have HI := Lib.hid (namedB_funs (all_no HX.out (HF.out.trans (by simp; omega))))
              clear a1
              go_wp2_with (go_at_call 58; refine (HC.out _).mono ?_; rintro e w2 ⟨rfl, k2⟩; have q2 := ((Blk.new wr 77 #[.string x.name, .int .i64 x.arity]).keep k2 (by simp)).cell 1)
              go_ret
              exact ⟨by rw [HI.out]; rfl, HS.out.keep.trans (((Keeps.refl _ []).alloc _).trans k2)⟩
            · have d1 : decide (x.arity < 1) = false := by simpa using a1
              by_cases a2 : 8 < x.arity
              · have d2 : decide (8 < x.arity) = true := by simpa using a2
                have HI := Lib.hid (namedB_funs (all_no HX.out (HF.out.trans (by simp; omega))))
                clear a1 a2
                go_wp2_with (go_at_call 58; refine (HC.out _).mono ?_; rintro e w2 ⟨rfl, k2⟩; have q2 := ((Blk.new wr 77 #[.string x.name, .int .i64 x.arity]).keep k2 (by simp)).cell 1)
                go_ret
                exact ⟨by rw [HI.out]; rfl, HS.out.keep.trans (((Keeps.refl _ []).alloc _).trans k2)⟩
              · have d2 : decide (8 < x.arity) = false := by simpa using a2
                have HP2 := Lib.hid (take_all1 HX.out (HF.out.trans (by simp; omega)) HP.out)
                clear a1 a2
                go_wp2_with (go_at_call 58; refine (HC.out _).mono ?_; rintro e w2 ⟨rfl, k2⟩; have q2 := ((Blk.new wr 77 #[.string x.name, .int .i64 x.arity]).keep k2 (by simp)).cell 1)
                go_roundw
                case rel => exact ⟨k + 1, by omega, by go_num, HP2.out, (HS.out.go ((Keeps.refl _ []).alloc _)).go k2⟩
                case measure => simp [intOf]; omega
        · obtain rfl : nf = k := by omega
          have HP3 := Lib.hid (all_of Lf.out HP.out)
          clear hlt hk HP
          have c1 := HS.out.blk.cell 2
          go_wp2_with fail
          clear c1
          go_loopw [47] (fun i wr => ∃ k : Nat, k ≤ np ∧ i = .int .i64 k ∧ Hid (∀ y ∈ o.preds.take k, predOk y = true) ∧ BoxSt w wr w.heap.size 31 #[.slice Aa na ca, .slice Af nf cf, .slice Ap np cp, .slice Ac nc cc]) (fun i _ => np - (intOf i).toNat)
          case atStart => exact ⟨0, Nat.zero_le _, rfl, fun y hy => by simp at hy, HS.out⟩
          case round =>
            obtain ⟨k, hk, rfl, HP, st⟩ := hrel
            clear HS
            have HS := Lib.hid st
            clear st
            by_cases hlt : k < np
            · obtain ⟨x, hx⟩ := at_of Lp.out hlt
              obtain ⟨b, off, rfl, hb, hc⟩ := (H.out.preds).field predE_len hx (by omega)
              have HX := Lib.hid hx
              have q0 : wr.cell? ⟨b, off + k * 3, none⟩ = some _ := (HS.out.keep.cell0 hb).trans (hc 0 _ rfl)
              have q1 : wr.cell? ⟨b, off + k * 3 + 1, none⟩ = some _ := (HS.out.keep.cell0 hb).trans (hc 1 _ rfl)
              have q3 : wr.cell? ⟨b, off + k * 3 + 2, none⟩ = some _ := (HS.out.keep.cell0 hb).trans (hc 2 _ rfl)
              clear hx hc
              have hcall := name_any x.name
              have HF : Hid (predOk x = (nameOk x.name && (decide (0 ≤ x.arity) && decide (x.arity ≤ 8)))) := rfl
              cases hv : nameOk x.name
              all_goals
                rw [hv] at hcall HF
                have HC := Lib.hid hcall
                clear hcall
              · have HI := Lib.hid (namedB_preds (all_no HX.out HF.out))
                go_wp2_with (go_at_call 58; refine (HC.out _).mono ?_; rintro e w2 ⟨rfl, k2⟩)
                go_ret
                exact ⟨by rw [HI.out]; rfl, HS.out.keep.trans (((Keeps.refl _ []).alloc _).trans k2)⟩
              · by_cases a1 : x.arity < 0
                · have d1 : decide (x.arity < 0) = true := by simpa using a1
                  have HI := Lib.hid (namedB_preds (all_no HX.out (HF.out.trans (by simp; omega))))
                  clear a1
                  go_wp2_with (go_at_call 58; refine (HC.out _).mono ?_; rintro e w2 ⟨rfl, k2⟩; have q2 := ((Blk.new wr 52 #[.string x.name, .int .i64 x.arity, .int .i64 x.entry]).keep k2 (by simp)).cell 1)
                  go_ret
                  exact ⟨by rw [HI.out]; rfl, HS.out.keep.trans (((Keeps.refl _ []).alloc _).trans k2)⟩
                · have d1 : decide (x.arity < 0) = false := by simpa using a1
                  by_cases a2 : 8 < x.arity
                  · have d2 : decide (8 < x.arity) = true := by simpa using a2
                    have HI := Lib.hid (namedB_preds (all_no HX.out (HF.out.trans (by simp; omega))))
                    clear a1 a2
                    go_wp2_with (go_at_call 58; refine (HC.out _).mono ?_; rintro e w2 ⟨rfl, k2⟩; have q2 := ((Blk.new wr 52 #[.string x.name, .int .i64 x.arity, .int .i64 x.entry]).keep k2 (by simp)).cell 1)
                    go_ret
                    exact ⟨by rw [HI.out]; rfl, HS.out.keep.trans (((Keeps.refl _ []).alloc _).trans k2)⟩
                  · have d2 : decide (8 < x.arity) = false := by simpa using a2
                    have HP2 := Lib.hid (take_all1 HX.out (HF.out.trans (by simp; omega)) HP.out)
                    clear a1 a2
                    go_wp2_with (go_at_call 58; refine (HC.out _).mono ?_; rintro e w2 ⟨rfl, k2⟩; have q2 := ((Blk.new wr 52 #[.string x.name, .int .i64 x.arity, .int .i64 x.entry]).keep k2 (by simp)).cell 1)
                    go_roundw
                    case rel => exact ⟨k + 1, by omega, by go_num, HP2.out, (HS.out.go ((Keeps.refl _ []).alloc _)).go k2⟩
                    case measure => simp [intOf]; omega
            · obtain rfl : np = k := by omega
              have HI := Lib.hid (namedB_all HP1.out HP3.out (all_of Lp.out HP.out))
              go_wp2_with fail
              go_ret
              exact ⟨by rw [HI.out]; rfl, HS.out.keep⟩
end Go.Proofs.YtpcihhdalofdiaaGreatDoor
