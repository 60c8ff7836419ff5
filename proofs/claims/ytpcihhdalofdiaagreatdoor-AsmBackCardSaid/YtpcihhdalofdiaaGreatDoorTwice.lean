/- The three instances of obj.twice. Printed by gen_twice.py. -/
import Derived.Test.YtpcihhdalofdiaaGreatDoorSet
import Derived.Test.YtpcihhdalofdiaaGreatDoorObj
namespace Go.Proofs.YtpcihhdalofdiaaGreatDoor
open Go Go.RowKit Go.Maps
def intE (x : Int) : List Value := [.int .i64 x]
theorem intE_len (x : Int) : (intE x).length = 1 := rfl
theorem law_string : Keyed Tryz.prog 9 := string_keyed Tryz.underlying9
theorem law_int : Keyed Tryz.prog 3 := int_keyed Tryz.underlying3
theorem laid_out : laidOutB Tryz.prog = true := by kernel_rfl
theorem row_fun : 77 < Tryz.prog.types.size := of_decide_eq_true (by kernel_rfl)
theorem key_fun : Tryz.prog.keyTypeAt 2 77 = true := by kernel_rfl
set_option maxRecDepth 100000 in
theorem law_fun0 : WideMaps.KeyLaw Tryz.prog 77 := deep_law_laid laid_out (m := 2) (by omega) row_fun key_fun (by kernel_rfl)
theorem law_fun : Keyed Tryz.prog 77 := Keyed.of_law law_fun0

theorem kvInj_Str {a b : ByteArray} (h : Value.string a = .string b) : a = b := by
  injection h
set_option maxHeartbeats 800000 in
theorem twiceStr_any (A : Option Addr) (n c : Nat) (l : List ByteArray) (w : World) (hl : l.length = n) (hn : n ≤ 65536) (hA : Rd w A (l.flatMap strE)) (hkey : ∀ x ∈ l, ∃ lit, keyOf Tryz.prog 9 (.string x) = some lit) :
    Calls Tryz.prog 26 #[.slice A n c] w fun e w' => e = .returned (.bool (dupB l)) ∧ Keeps w w' [] := by
  have HL := Lib.hid hl
  have HA := Lib.hid hA
  have HK := Lib.hid hkey
  clear hl hA hkey
  have hmm := @run_makeMap Tryz.prog
  go_enter Tryz.func26, Tryz.ntmps26
  go_wp2_with fail
  go_loopw [9] (fun i wr => ∃ k : Nat, k ≤ n ∧ i = .int .i64 k ∧ SetIs wr Tryz.prog 9 w.heap.size ((l.take k).map fun x => Value.string x) ∧ Hid (dupB (l.take k) = false) ∧ Keeps w wr []) (fun i _ => n - (intOf i).toNat)
  case atStart => exact ⟨0, Nat.zero_le _, rfl, SetIs.new _ _ _, rfl, (Keeps.refl _ _).alloc _⟩
  case round =>
    obtain ⟨k, hk, rfl, hset, HD, hkeep⟩ := hrel
    have HSet := Lib.hid hset
    have HKeep := Lib.hid hkeep
    clear hset hkeep hmm
    by_cases hlt : k < n
    · obtain ⟨x, hx⟩ := at_of HL.out hlt
      obtain ⟨b, off, rfl, hb, hc⟩ := HA.out.field strE_len hx (by omega)
      have HX := Lib.hid hx
      clear hx
      have q0 : wr.cell? ⟨b, off + k * 1, none⟩ = some _ := (HKeep.out.cell0 hb).trans (hc 0 _ rfl)
      rw [Nat.mul_one] at q0
      clear hc
      obtain ⟨lit, hlit⟩ := HK.out x (List.mem_of_getElem? HX.out)
      have HLit := Lib.hid hlit
      clear hlit
      rcases SetIs.look (T := 115) (HSet.out.keep (w' := wr) (Keeps.refl _ []) (by simp)) law_string Tryz.underlying115 (by kernel_rfl) HLit.out with ⟨hlook, hno⟩ | ⟨hlook, hyes⟩
      · have HN : Hid (x ∉ l.take k) := fun hm => hno (List.mem_map.2 ⟨x, hm, rfl⟩)
        have HD2 : Hid (dupB (l.take (k + 1)) = false) := dupB_miss HX.out HN.out HD.out
        obtain ⟨w2, hst, hset2, hk2⟩ := SetIs.store (T := 115) (HSet.out.keep (w' := wr) (Keeps.refl _ []) (by simp)) law_string Tryz.underlying115 HLit.out hno
        have HSet2 := Lib.hid hset2
        have HK2 := Lib.hid hk2
        clear hno hset2 hk2
        go_wp2_with fail
        go_roundw
        case rel =>
          refine ⟨k + 1, by omega, by go_num, ?_, HD2, ?_⟩
          · rw [List.take_add_one, HX.out, Option.toList_some, List.map_append]
            exact HSet2.out
          · have kk : Keeps w w2 [w.heap.size] := ((HKeep.out.trans (Keeps.refl _ [])).to_ _).trans HK2.out
            exact ⟨kk.os, kk.tape, kk.output, kk.size, fun j hj _ => kk.block j hj (by simp; omega)⟩
        case measure => simp [intOf]; omega
      · have HI : Hid (dupB l = true) := by
          obtain ⟨y, hy, he⟩ := List.mem_map.1 hyes
          have := kvInj_Str he
          subst this
          exact dupB_hit HX.out hy
        clear hyes
        go_wp2_with fail
        go_ret
        exact ⟨by rw [HI.out]; rfl, HKeep.out.trans (Keeps.refl _ [])⟩
    · obtain rfl : n = k := by omega
      have HI : Hid (dupB l = false) := by
        have := HD.out
        rwa [List.take_of_length_le (by rw [HL.out]; exact Nat.le_refl _)] at this
      go_wp2_with fail
      go_ret
      exact ⟨by rw [HI.out]; rfl, HKeep.out⟩

theorem kvInj_Int {a b : Int} (h : Value.int .i64 a = .int .i64 b) : a = b := by
  injection h
set_option maxHeartbeats 800000 in
theorem twiceInt_any (A : Option Addr) (n c : Nat) (l : List Int) (w : World) (hl : l.length = n) (hn : n ≤ 65536) (hA : Rd w A (l.flatMap intE)) (hkey : ∀ x ∈ l, ∃ lit, keyOf Tryz.prog 3 (.int .i64 x) = some lit) :
    Calls Tryz.prog 59 #[.slice A n c] w fun e w' => e = .returned (.bool (dupB l)) ∧ Keeps w w' [] := by
  have HL := Lib.hid hl
  have HA := Lib.hid hA
  have HK := Lib.hid hkey
  clear hl hA hkey
  have hmm := @run_makeMap Tryz.prog
  go_enter Tryz.func59, Tryz.ntmps59
  go_wp2_with fail
  go_loopw [9] (fun i wr => ∃ k : Nat, k ≤ n ∧ i = .int .i64 k ∧ SetIs wr Tryz.prog 3 w.heap.size ((l.take k).map fun x => Value.int .i64 x) ∧ Hid (dupB (l.take k) = false) ∧ Keeps w wr []) (fun i _ => n - (intOf i).toNat)
  case atStart => exact ⟨0, Nat.zero_le _, rfl, SetIs.new _ _ _, rfl, (Keeps.refl _ _).alloc _⟩
  case round =>
    obtain ⟨k, hk, rfl, hset, HD, hkeep⟩ := hrel
    have HSet := Lib.hid hset
    have HKeep := Lib.hid hkeep
    clear hset hkeep hmm
    by_cases hlt : k < n
    · obtain ⟨x, hx⟩ := at_of HL.out hlt
      obtain ⟨b, off, rfl, hb, hc⟩ := HA.out.field intE_len hx (by omega)
      have HX := Lib.hid hx
      clear hx
      have q0 : wr.cell? ⟨b, off + k * 1, none⟩ = some _ := (HKeep.out.cell0 hb).trans (hc 0 _ rfl)
      rw [Nat.mul_one] at q0
      clear hc
      obtain ⟨lit, hlit⟩ := HK.out x (List.mem_of_getElem? HX.out)
      have HLit := Lib.hid hlit
      clear hlit
      rcases SetIs.look (T := 84) (HSet.out.keep (w' := wr) (Keeps.refl _ []) (by simp)) law_int Tryz.underlying84 (by kernel_rfl) HLit.out with ⟨hlook, hno⟩ | ⟨hlook, hyes⟩
      · have HN : Hid (x ∉ l.take k) := fun hm => hno (List.mem_map.2 ⟨x, hm, rfl⟩)
        have HD2 : Hid (dupB (l.take (k + 1)) = false) := dupB_miss HX.out HN.out HD.out
        obtain ⟨w2, hst, hset2, hk2⟩ := SetIs.store (T := 84) (HSet.out.keep (w' := wr) (Keeps.refl _ []) (by simp)) law_int Tryz.underlying84 HLit.out hno
        have HSet2 := Lib.hid hset2
        have HK2 := Lib.hid hk2
        clear hno hset2 hk2
        go_wp2_with fail
        go_roundw
        case rel =>
          refine ⟨k + 1, by omega, by go_num, ?_, HD2, ?_⟩
          · rw [List.take_add_one, HX.out, Option.toList_some, List.map_append]
            exact HSet2.out
          · have kk : Keeps w w2 [w.heap.size] := ((HKeep.out.trans (Keeps.refl _ [])).to_ _).trans HK2.out
            exact ⟨kk.os, kk.tape, kk.output, kk.size, fun j hj _ => kk.block j hj (by simp; omega)⟩
        case measure => simp [intOf]; omega
      · have HI : Hid (dupB l = true) := by
          obtain ⟨y, hy, he⟩ := List.mem_map.1 hyes
          have := kvInj_Int he
          subst this
          exact dupB_hit HX.out hy
        clear hyes
        go_wp2_with fail
        go_ret
        exact ⟨by rw [HI.out]; rfl, HKeep.out.trans (Keeps.refl _ [])⟩
    · obtain rfl : n = k := by omega
      have HI : Hid (dupB l = false) := by
        have := HD.out
        rwa [List.take_of_length_le (by rw [HL.out]; exact Nat.le_refl _)] at this
      go_wp2_with fail
      go_ret
      exact ⟨by rw [HI.out]; rfl, HKeep.out⟩

theorem kvInj_Fun {a b : LFun} (h : Value.agg #[.string a.name, .int .i64 a.arity] = .agg #[.string b.name, .int .i64 b.arity]) : a = b := by
  cases a
  cases b
  simpa using h
set_option maxHeartbeats 800000 in
theorem twiceFun_any (A : Option Addr) (n c : Nat) (l : List LFun) (w : World) (hl : l.length = n) (hn : n ≤ 65536) (hA : Rd w A (l.flatMap funE)) (hkey : ∀ x ∈ l, ∃ lit, keyOf Tryz.prog 77 (.agg #[.string x.name, .int .i64 x.arity]) = some lit) :
    Calls Tryz.prog 27 #[.slice A n c] w fun e w' => e = .returned (.bool (dupB l)) ∧ Keeps w w' [] := by
  have HL := Lib.hid hl
  have HA := Lib.hid hA
  have HK := Lib.hid hkey
  clear hl hA hkey
  have hmm := @run_makeMap Tryz.prog
  go_enter Tryz.func27, Tryz.ntmps27
  go_wp2_with fail
  go_loopw [9] (fun i wr => ∃ k : Nat, k ≤ n ∧ i = .int .i64 k ∧ SetIs wr Tryz.prog 77 w.heap.size ((l.take k).map fun x => Value.agg #[.string x.name, .int .i64 x.arity]) ∧ Hid (dupB (l.take k) = false) ∧ Keeps w wr []) (fun i _ => n - (intOf i).toNat)
  case atStart => exact ⟨0, Nat.zero_le _, rfl, SetIs.new _ _ _, rfl, (Keeps.refl _ _).alloc _⟩
  case round =>
    obtain ⟨k, hk, rfl, hset, HD, hkeep⟩ := hrel
    have HSet := Lib.hid hset
    have HKeep := Lib.hid hkeep
    clear hset hkeep hmm
    by_cases hlt : k < n
    · obtain ⟨x, hx⟩ := at_of HL.out hlt
      obtain ⟨b, off, rfl, hb, hc⟩ := HA.out.field funE_len hx (by omega)
      have HX := Lib.hid hx
      clear hx
      have q0 : wr.cell? ⟨b, off + k * 2, none⟩ = some _ := (HKeep.out.cell0 hb).trans (hc 0 _ rfl)
      have q1 : wr.cell? ⟨b, off + k * 2 + 1, none⟩ = some _ := (HKeep.out.cell0 hb).trans (hc 1 _ rfl)
      clear hc
      obtain ⟨lit, hlit⟩ := HK.out x (List.mem_of_getElem? HX.out)
      have HLit := Lib.hid hlit
      clear hlit
      rcases SetIs.look (T := 116) (HSet.out.keep (w' := (wr.alloc (.cells #[.string x.name, .int .i64 x.arity] 77))) ((Keeps.refl _ []).alloc _) (by simp)) law_fun Tryz.underlying116 (by kernel_rfl) HLit.out with ⟨hlook, hno⟩ | ⟨hlook, hyes⟩
      · have HN : Hid (x ∉ l.take k) := fun hm => hno (List.mem_map.2 ⟨x, hm, rfl⟩)
        have HD2 : Hid (dupB (l.take (k + 1)) = false) := dupB_miss HX.out HN.out HD.out
        obtain ⟨w2, hst, hset2, hk2⟩ := SetIs.store (T := 116) (HSet.out.keep (w' := (wr.alloc (.cells #[.string x.name, .int .i64 x.arity] 77))) ((Keeps.refl _ []).alloc _) (by simp)) law_fun Tryz.underlying116 HLit.out hno
        have HSet2 := Lib.hid hset2
        have HK2 := Lib.hid hk2
        clear hno hset2 hk2
        go_wp2_with fail
        go_roundw
        case rel =>
          refine ⟨k + 1, by omega, by go_num, ?_, HD2, ?_⟩
          · rw [List.take_add_one, HX.out, Option.toList_some, List.map_append]
            exact HSet2.out
          · have kk : Keeps w w2 [w.heap.size] := ((HKeep.out.trans ((Keeps.refl _ []).alloc _)).to_ _).trans HK2.out
            exact ⟨kk.os, kk.tape, kk.output, kk.size, fun j hj _ => kk.block j hj (by simp; omega)⟩
        case measure => simp [intOf]; omega
      · have HI : Hid (dupB l = true) := by
          obtain ⟨y, hy, he⟩ := List.mem_map.1 hyes
          have := kvInj_Fun he
          subst this
          exact dupB_hit HX.out hy
        clear hyes
        go_wp2_with fail
        go_ret
        exact ⟨by rw [HI.out]; rfl, HKeep.out.trans ((Keeps.refl _ []).alloc _)⟩
    · obtain rfl : n = k := by omega
      have HI : Hid (dupB l = false) := by
        have := HD.out
        rwa [List.take_of_length_le (by rw [HL.out]; exact Nat.le_refl _)] at this
      go_wp2_with fail
      go_ret
      exact ⟨by rw [HI.out]; rfl, HKeep.out⟩
end Go.Proofs.YtpcihhdalofdiaaGreatDoor
