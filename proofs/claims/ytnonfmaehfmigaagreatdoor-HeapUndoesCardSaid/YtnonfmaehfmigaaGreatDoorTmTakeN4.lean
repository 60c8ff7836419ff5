/- The document's take at a name, what stands behind it: the kind 4. -/
import Derived.Test.YtnonfmaehfmigaaGreatDoorTmTakeN
namespace Go.Proofs.YtnonfmaehfmigaaGreatDoor
open Go.RowKit

attribute [local irreducible] nameR
set_option maxRecDepth 100000 in
set_option maxHeartbeats 12800000 in
theorem take_name_4 (s : ByteArray) (w : World) (p : Txt → Option (Tm × Txt)) (h3 : 0 < s.size) (h88 : s.data.toList.head? ≠ some 88) (h91 : s.data.toList.head? ≠ some 91) (hf : s.size ≤ 10000) (hB : BrHyp_4 s.data.toList)
    (hp : ∀ l x, p l = some x → x.2.length ≤ l.length)
    (ih : ∀ (x : ByteArray) (w : World), x.size < s.size → Calls Tryz.prog 46 #[.string x] w (TakeDone w x.data.toList (p x.data.toList))) :
    Calls Tryz.prog 46 #[.string s] w (TakeDone w s.data.toList (nameR p s.data.toList)) := by
  have hsl : s.data.toList.length = s.size := rfl
  have d0 : s.toList.isEmpty = false := by rw [empty_size]; exact decide_eq_false (by omega)
  have hd := head_at h3
  rw [hd] at h88 h91
  have d1 : ((s[0].toNat : Int) == 88) = false := by
    have : s[0].toNat ≠ 88 := fun h => h88 (congrArg some (UInt8.toNat_inj.1 (by simpa using h)))
    simp; omega
  have d2 : ((s[0].toNat : Int) == 91) = false := by
    have : s[0].toNat ≠ 91 := fun h => h91 (congrArg some (UInt8.toNat_inj.1 (by simpa using h)))
    simp; omega
  have g1 : (1 : Int) ≤ (s.size : Int) := by omega
  have HB0 : Hid (Blk (w.alloc (.cells #[.int .i64 0, .int .i64 0, .string ⟨#[]⟩, .slice none 0 0] 24)) w.heap.size 24 #[.int .i64 0, .int .i64 0, .string ⟨#[]⟩, .slice none 0 0]) := Blk.new _ _ _
  have HK0 : Hid (Keeps w (w.alloc (.cells #[.int .i64 0, .int .i64 0, .string ⟨#[]⟩, .slice none 0 0] 24)) []) := (Keeps.refl w []).alloc _
  have HI := Lib.hid ih
  have HBr := Lib.hid hB
  have HP := Lib.hid hp
  obtain ⟨l, hl⟩ : ∃ l, s.data.toList = l := ⟨_, rfl⟩
  have HLs : Hid (l = s.data.toList) := hl.symm
  rw [hl] at hsl HBr ⊢
  obtain ⟨R, hRe⟩ : ∃ R, nameR p l = R := ⟨_, rfl⟩
  have HR : Hid (R = nameR p l) := hRe.symm
  rw [hRe]
  clear h88 h91 hd ih hp hl hRe hB
  unfold TakeDone
  go_enter Tryz.func46, Tryz.ntmps46
  go_wp2_with fail
  go_loop [10] (fun kv => ∃ k : Nat, k ≤ s.size ∧ kv = .int .i64 k ∧ Hid (∀ c ∈ l.take k, isAl c = true)) (fun kv => s.size - (intOf kv).toNat)
  case atStart => exact ⟨0, Nat.zero_le _, rfl, fun y hy => by simp at hy⟩
  case round =>
    obtain ⟨k, hk, rfl, HA⟩ := hrel
    clear d0 d1 d2
    have HST : Hid (∀ (_ : ∀ c, l[k]? = some c → isAl c = false), l.takeWhile isAl = l.take k ∧ l.dropWhile isAl = l.drop k) := fun h1 => by
      have ht := take_stop (p := isAl) (a := l.take k) (b := l.drop k) HA.out (fun c hc => h1 c (by rw [List.head?_drop] at hc; exact hc))
      rw [List.take_append_drop] at ht
      exact ht
    obtain ⟨nm, hnm0⟩ : ∃ nm, l.take k = nm := ⟨_, rfl⟩
    have HNM : Hid (s.data.toList.take k = nm) := by show _ = _; rw [← HLs.out]; exact hnm0
    have hnl : nm.length = k := by rw [← hnm0, List.length_take]; omega
    by_cases hlt : k < s.size
    · have hat : l[k]? = some s[k] := by rw [HLs.out]; exact dat_at s k hlt
      have e1 : decide ((k : Int) < (s.size : Int)) = true := by simp; omega
      cases hal : isAl s[k] with
      | true =>
        have htk : l.take (k + 1) = l.take k ++ [s[k]] := by rw [List.take_add_one, hat]; rfl
        have HA2 : Hid (∀ c ∈ l.take (k + 1), isAl c = true) := by
          intro c hc
          rw [htk] at hc
          rcases List.mem_append.1 hc with hc | hc
          · exact HA.out c hc
          · simp at hc; rw [hc]; exact hal
        have hcs : (97 ≤ s[k].toNat ∧ s[k].toNat ≤ 122) ∨ (48 ≤ s[k].toNat ∧ s[k].toNat ≤ 57) := by simpa [isAl, isSm, isDig] using hal
        clear htk hal hat
        rcases hcs with hcs | hcs
        · have a1 : decide ((97 : Int) ≤ (s[k].toNat : Int)) = true := by simp; omega
          have a2 : decide ((s[k].toNat : Int) ≤ 122) = true := by simp; omega
          clear hcs
          go_wp2_with fail
          go_round
          case rel => exact ⟨k + 1, by omega, by go_num, HA2⟩
          case measure => simp [intOf]; omega
        · have a1 : decide ((97 : Int) ≤ (s[k].toNat : Int)) = false := by simp; omega
          have a3 : decide ((48 : Int) ≤ (s[k].toNat : Int)) = true := by simp; omega
          have a4 : decide ((s[k].toNat : Int) ≤ 57) = true := by simp; omega
          clear hcs
          go_wp2_with fail
          go_round
          case rel => exact ⟨k + 1, by omega, by go_num, HA2⟩
          case measure => simp [intOf]; omega
      | false =>
        obtain ⟨hnw, hdw⟩ := HST.out (fun c hc => by rw [hat] at hc; cases hc; exact hal)
        rw [hnm0] at hnw
        have HNW := Lib.hid hnw
        have HDW := Lib.hid hdw
        have hcs : s[k].toNat < 48 ∨ (57 < s[k].toNat ∧ s[k].toNat < 97) ∨ 122 < s[k].toNat := by
          simp [isAl, isSm, isDig] at hal
          omega
        have hk0' : (l.takeWhile isAl).length = k := by rw [hnw]; exact hnl
        exact absurd HBr.out (by unfold BrHyp_4; rw [hk0']; omega)
    · obtain rfl : k = s.size := by omega
      have hnone : l[s.size]? = none := List.getElem?_eq_none (by omega)
      obtain ⟨hnw, hdw⟩ := HST.out (fun c hc => by rw [hnone] at hc; cases hc)
      rw [hnm0] at hnw
      have HNW := Lib.hid hnw
      have HDW := Lib.hid hdw
      clear hnw hdw hnm0 hnone hlt
      go_upto_region 22 with fail
      have hpc : s.extract 0 s.size = stB nm := by rw [piece_is, List.drop_zero]; exact congrArg stB HNM.out
      have g2 : (s.size : Int) ≤ (s.size : Int) := by omega
      have b0 : (0 : Int) ≤ (s.size : Int) := Int.natCast_nonneg _
      go_upto_region 23 with fail
      have HB1 : Hid (Blk ((w.alloc (.cells #[.int .i64 0, .int .i64 0, .string ⟨#[]⟩, .slice none 0 0] 24)).alloc (.cells #[.int .i64 1, .int .i64 0, .string (stB nm), .slice none 0 0] 24)) w.heap.size 24 #[.int .i64 0, .int .i64 0, .string ⟨#[]⟩, .slice none 0 0]) := HB0.out.alloc _
      have HG1 : Hid (Blk ((w.alloc (.cells #[.int .i64 0, .int .i64 0, .string ⟨#[]⟩, .slice none 0 0] 24)).alloc (.cells #[.int .i64 1, .int .i64 0, .string (stB nm), .slice none 0 0] 24)) (w.heap.size + 1) 24 #[.int .i64 1, .int .i64 0, .string (stB nm), .slice none 0 0]) := Blk.newAt _ _ (by simp)
      have HK1 : Hid (Keeps w ((w.alloc (.cells #[.int .i64 0, .int .i64 0, .string ⟨#[]⟩, .slice none 0 0] 24)).alloc (.cells #[.int .i64 1, .int .i64 0, .string (stB nm), .slice none 0 0] 24)) []) := HK0.out.alloc _
      have hgg : w.heap.size + 1 < ((w.alloc (.cells #[.int .i64 0, .int .i64 0, .string ⟨#[]⟩, .slice none 0 0] 24)).alloc (.cells #[.int .i64 1, .int .i64 0, .string (stB nm), .slice none 0 0] 24)).heap.size := by simp
      generalize (w.alloc (.cells #[.int .i64 0, .int .i64 0, .string ⟨#[]⟩, .slice none 0 0] 24)).alloc (.cells #[.int .i64 1, .int .i64 0, .string (stB nm), .slice none 0 0] 24) = w1 at *
      obtain ⟨g, hg⟩ : ∃ g, w.heap.size + 1 = g := ⟨_, rfl⟩
      rw [hg] at HG1 hgg
      try rw [hg]
      have hne : w.heap.size ≠ g := by omega
      have HL : Hid (∀ v0 v1 v2 v3, TakeIs l (.mk 1 0 (stB nm) []) s.size R → TakeDone w l R (.returned (.tuple #[.agg #[.int .i64 1, .int .i64 0, .string (stB nm), .slice none 0 0], .int .i64 (s.size : Nat)])) ((((w1.setCell ⟨w.heap.size, 0, none⟩ v0).setCell ⟨w.heap.size, 1, none⟩ v1).setCell ⟨w.heap.size, 2, none⟩ v2).setCell ⟨w.heap.size, 3, none⟩ v3)) := fun v0 v1 v2 v3 hh =>
        TakeDone.hand (Tr.leaf w1 (fun b => w.heap.size ≤ b ∧ b ≠ w.heap.size) 1 0 (stB nm) (by rw [stB_size]; omega)) HK1.out hh (Nat.le_refl _) v0 v1 v2 v3
      have hb := HB1.out
      have hgc := HG1.out
      have zc0 := hb.cell 0
      have zf0 := hb.frozen 0
      have zc1 := hb.cell 1
      have zf1 := hb.frozen 1
      have zc2 := hb.cell 2
      have zf2 := hb.frozen 2
      have zc3 := hb.cell 3
      have zf3 := hb.frozen 3
      have yc0 := hgc.cell 0
      have yf0 := hgc.frozen 0
      have yc1 := hgc.cell 1
      have yf1 := hgc.frozen 1
      have yc2 := hgc.cell 2
      have yf2 := hgc.frozen 2
      have yc3 := hgc.cell 3
      have yf3 := hgc.frozen 3
      clear hb hgc
      by_cases hk0 : s.size = 0
      · omega
      have c0 : ((s.size : Int) == 0) = false := beq_eq_false_iff_ne.2 (by omega)
      have hnm : nm ≠ [] := fun h => hk0 (by rw [h] at hnl; simpa using hnl.symm)
      by_cases hks : s.size = s.size
      · have c1 : ((s.size : Int) == (s.size : Int)) = true := by simp
        have hR : R = some (.mk 1 0 (stB nm) [], l.drop s.size) := by
          rw [HR.out, nameR_con (by rw [HNW.out]; exact hnm) (by rw [HDW.out, HLs.out, at_end (by omega)]; simp), HNW.out, HDW.out]
        have HD := Lib.hid (HL.out (.int .i64 1) (.int .i64 0) (.string (stB nm)) (.slice none 0 0) (by
          rw [hR]
          exact ⟨fun h => by (cases h), fun x hx => by cases hx; exact ⟨rfl, by omega, by rw [List.length_drop]; omega, rfl⟩⟩))
        unfold TakeDone at HD
        clear hR
        go_wp2_with fail
        all_goals exact bodyPost_ret (v := .tuple #[.agg #[.int .i64 1, .int .i64 0, .string (stB nm), .slice none 0 0], .int .i64 (s.size : Nat)]) (by simp [results, Tryz.results46, go_sem, *]) rfl HD.out
      exact absurd rfl hks
end Go.Proofs.YtnonfmaehfmigaaGreatDoor
