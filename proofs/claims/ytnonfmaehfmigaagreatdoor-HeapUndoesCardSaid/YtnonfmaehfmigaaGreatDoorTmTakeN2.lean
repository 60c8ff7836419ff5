/- The document's take at a name, what stands behind it: the kind 2. -/
import Derived.Test.YtnonfmaehfmigaaGreatDoorTmTakeN
namespace Go.Proofs.YtnonfmaehfmigaaGreatDoor
open Go.RowKit

attribute [local irreducible] nameR
set_option maxRecDepth 100000 in
set_option maxHeartbeats 12800000 in
theorem take_name_2 (s : ByteArray) (w : World) (p : Txt → Option (Tm × Txt)) (h3 : 0 < s.size) (h88 : s.data.toList.head? ≠ some 88) (h91 : s.data.toList.head? ≠ some 91) (hf : s.size ≤ 10000) (hB : BrHyp_2 s.data.toList)
    (hp : ∀ l x, p l = some x → x.2.length ≤ l.length)
    (ih : ∀ (x : ByteArray) (w : World), x.size < s.size → Calls Tryz.prog 46 #[.string x] w (TakeDone w x.data.toList (p x.data.toList))) :
    Calls Tryz.prog 46 #[.string s] w (TakeDone w s.data.toList (nameR p s.data.toList)) := by
  have hsl : s.data.toList.length = s.size := rfl
  have d0 : s.toList.isEmpty = false := by rw [empty_size]; exact decide_eq_false (by omega)
  have hd := head_at h3
  rw [hd] at h88 h91
  have d1 : ((s[0].toNat : Int) == 88) = false := by
    have : s[0].toNat ≠ 88 := fun h => h88 (congrArg some (UInt8.toNat_inj.1 (by simpa using h)))
    simp; omega
  have d2 : ((s[0].toNat : Int) == 91) = false := by
    have : s[0].toNat ≠ 91 := fun h => h91 (congrArg some (UInt8.toNat_inj.1 (by simpa using h)))
    simp; omega
  have g1 : (1 : Int) ≤ (s.size : Int) := by omega
  have HB0 : Hid (Blk (w.alloc (.cells #[.int .i64 0, .int .i64 0, .string ⟨#[]⟩, .slice none 0 0] 24)) w.heap.size 24 #[.int .i64 0, .int .i64 0, .string ⟨#[]⟩, .slice none 0 0]) := Blk.new _ _ _
  have HK0 : Hid (Keeps w (w.alloc (.cells #[.int .i64 0, .int .i64 0, .string ⟨#[]⟩, .slice none 0 0] 24)) []) := (Keeps.refl w []).alloc _
  have HI := Lib.hid ih
  have HBr := Lib.hid hB
  have HP := Lib.hid hp
  obtain ⟨l, hl⟩ : ∃ l, s.data.toList = l := ⟨_, rfl⟩
  have HLs : Hid (l = s.data.toList) := hl.symm
  rw [hl] at hsl HBr ⊢
  obtain ⟨R, hRe⟩ : ∃ R, nameR p l = R := ⟨_, rfl⟩
  have HR : Hid (R = nameR p l) := hRe.symm
  rw [hRe]
  clear h88 h91 hd ih hp hl hRe hB
  unfold TakeDone
  go_enter Tryz.func46, Tryz.ntmps46
  go_wp2_with fail
  go_loop [10] (fun kv => ∃ k : Nat, k ≤ s.size ∧ kv = .int .i64 k ∧ Hid (∀ c ∈ l.take k, isAl c = true)) (fun kv => s.size - (intOf kv).toNat)
  case atStart => exact ⟨0, Nat.zero_le _, rfl, fun y hy => by simp at hy⟩
  case round =>
    obtain ⟨k, hk, rfl, HA⟩ := hrel
    clear d0 d1 d2
    have HST : Hid (∀ (_ : ∀ c, l[k]? = some c → isAl c = false), l.takeWhile isAl = l.take k ∧ l.dropWhile isAl = l.drop k) := fun h1 => by
      have ht := take_stop (p := isAl) (a := l.take k) (b := l.drop k) HA.out (fun c hc => h1 c (by rw [List.head?_drop] at hc; exact hc))
      rw [List.take_append_drop] at ht
      exact ht
    obtain ⟨nm, hnm0⟩ : ∃ nm, l.take k = nm := ⟨_, rfl⟩
    have HNM : Hid (s.data.toList.take k = nm) := by show _ = _; rw [← HLs.out]; exact hnm0
    have hnl : nm.length = k := by rw [← hnm0, List.length_take]; omega
    by_cases hlt : k < s.size
    · have hat : l[k]? = some s[k] := by rw [HLs.out]; exact dat_at s k hlt
      have e1 : decide ((k : Int) < (s.size : Int)) = true := by simp; omega
      cases hal : isAl s[k] with
      | true =>
        have htk : l.take (k + 1) = l.take k ++ [s[k]] := by rw [List.take_add_one, hat]; rfl
        have HA2 : Hid (∀ c ∈ l.take (k + 1), isAl c = true) := by
          intro c hc
          rw [htk] at hc
          rcases List.mem_append.1 hc with hc | hc
          · exact HA.out c hc
          · simp at hc; rw [hc]; exact hal
        have hcs : (97 ≤ s[k].toNat ∧ s[k].toNat ≤ 122) ∨ (48 ≤ s[k].toNat ∧ s[k].toNat ≤ 57) := by simpa [isAl, isSm, isDig] using hal
        clear htk hal hat
        rcases hcs with hcs | hcs
        · have a1 : decide ((97 : Int) ≤ (s[k].toNat : Int)) = true := by simp; omega
          have a2 : decide ((s[k].toNat : Int) ≤ 122) = true := by simp; omega
          clear hcs
          go_wp2_with fail
          go_round
          case rel => exact ⟨k + 1, by omega, by go_num, HA2⟩
          case measure => simp [intOf]; omega
        · have a1 : decide ((97 : Int) ≤ (s[k].toNat : Int)) = false := by simp; omega
          have a3 : decide ((48 : Int) ≤ (s[k].toNat : Int)) = true := by simp; omega
          have a4 : decide ((s[k].toNat : Int) ≤ 57) = true := by simp; omega
          clear hcs
          go_wp2_with fail
          go_round
          case rel => exact ⟨k + 1, by omega, by go_num, HA2⟩
          case measure => simp [intOf]; omega
      | false =>
        obtain ⟨hnw, hdw⟩ := HST.out (fun c hc => by rw [hat] at hc; cases hc; exact hal)
        rw [hnm0] at hnw
        have HNW := Lib.hid hnw
        have HDW := Lib.hid hdw
        have hcs : s[k].toNat < 48 ∨ (57 < s[k].toNat ∧ s[k].toNat < 97) ∨ 122 < s[k].toNat := by
          simp [isAl, isSm, isDig] at hal
          omega
        have hk0' : (l.takeWhile isAl).length = k := by rw [hnw]; exact hnl
        obtain ⟨c, hcc, hcs⟩ := HBr.out
        rw [hk0', hat] at hcc
        obtain rfl : s[k] = c := by injection hcc
        clear hal hat hnw hdw hnm0 hcc hk0'
        have a1 : decide ((97 : Int) ≤ (s[k].toNat : Int)) = false := by simp; omega
        have a2 : decide ((s[k].toNat : Int) ≤ 122) = true := by simp; omega
        have a3 : decide ((48 : Int) ≤ (s[k].toNat : Int)) = true := by simp; omega
        have a4 : decide ((s[k].toNat : Int) ≤ 57) = false := by simp; omega
        clear hcs
        go_upto_region 22 with fail
        clear e1 a1 a2 a3 a4
        have hpc : s.extract 0 k = stB nm := by rw [piece_is, List.drop_zero]; exact congrArg stB HNM.out
        have g2 : (k : Int) ≤ (s.size : Int) := by omega
        have b0 : (0 : Int) ≤ (k : Int) := Int.natCast_nonneg _
        go_upto_region 23 with fail
        have HB1 : Hid (Blk ((w.alloc (.cells #[.int .i64 0, .int .i64 0, .string ⟨#[]⟩, .slice none 0 0] 24)).alloc (.cells #[.int .i64 1, .int .i64 0, .string (stB nm), .slice none 0 0] 24)) w.heap.size 24 #[.int .i64 0, .int .i64 0, .string ⟨#[]⟩, .slice none 0 0]) := HB0.out.alloc _
        have HG1 : Hid (Blk ((w.alloc (.cells #[.int .i64 0, .int .i64 0, .string ⟨#[]⟩, .slice none 0 0] 24)).alloc (.cells #[.int .i64 1, .int .i64 0, .string (stB nm), .slice none 0 0] 24)) (w.heap.size + 1) 24 #[.int .i64 1, .int .i64 0, .string (stB nm), .slice none 0 0]) := Blk.newAt _ _ (by simp)
        have HK1 : Hid (Keeps w ((w.alloc (.cells #[.int .i64 0, .int .i64 0, .string ⟨#[]⟩, .slice none 0 0] 24)).alloc (.cells #[.int .i64 1, .int .i64 0, .string (stB nm), .slice none 0 0] 24)) []) := HK0.out.alloc _
        have hgg : w.heap.size + 1 < ((w.alloc (.cells #[.int .i64 0, .int .i64 0, .string ⟨#[]⟩, .slice none 0 0] 24)).alloc (.cells #[.int .i64 1, .int .i64 0, .string (stB nm), .slice none 0 0] 24)).heap.size := by simp
        generalize (w.alloc (.cells #[.int .i64 0, .int .i64 0, .string ⟨#[]⟩, .slice none 0 0] 24)).alloc (.cells #[.int .i64 1, .int .i64 0, .string (stB nm), .slice none 0 0] 24) = w1 at *
        obtain ⟨g, hg⟩ : ∃ g, w.heap.size + 1 = g := ⟨_, rfl⟩
        rw [hg] at HG1 hgg
        try rw [hg]
        have hne : w.heap.size ≠ g := by omega
        have HL : Hid (∀ v0 v1 v2 v3, TakeIs l (.mk 1 0 (stB nm) []) k R → TakeDone w l R (.returned (.tuple #[.agg #[.int .i64 1, .int .i64 0, .string (stB nm), .slice none 0 0], .int .i64 (k : Nat)])) ((((w1.setCell ⟨w.heap.size, 0, none⟩ v0).setCell ⟨w.heap.size, 1, none⟩ v1).setCell ⟨w.heap.size, 2, none⟩ v2).setCell ⟨w.heap.size, 3, none⟩ v3)) := fun v0 v1 v2 v3 hh =>
          TakeDone.hand (Tr.leaf w1 (fun b => w.heap.size ≤ b ∧ b ≠ w.heap.size) 1 0 (stB nm) (by rw [stB_size]; omega)) HK1.out hh (Nat.le_refl _) v0 v1 v2 v3
        have hb := HB1.out
        have hgc := HG1.out
        have zc0 := hb.cell 0
        have zf0 := hb.frozen 0
        have zc1 := hb.cell 1
        have zf1 := hb.frozen 1
        have zc2 := hb.cell 2
        have zf2 := hb.frozen 2
        have zc3 := hb.cell 3
        have zf3 := hb.frozen 3
        have yc0 := hgc.cell 0
        have yf0 := hgc.frozen 0
        have yc1 := hgc.cell 1
        have yf1 := hgc.frozen 1
        have yc2 := hgc.cell 2
        have yf2 := hgc.frozen 2
        have yc3 := hgc.cell 3
        have yf3 := hgc.frozen 3
        clear hb hgc
        by_cases hk0 : k = 0
        · have c0 : ((k : Int) == 0) = true := by simp; omega
          have hR : R = none := by rw [HR.out]; exact nameR_none (by rw [HNW.out]; exact List.length_eq_zero_iff.1 (by omega))
          have HD := Lib.hid (HL.out (.int .i64 1) (.int .i64 0) (.string (stB nm)) (.slice none 0 0) (by rw [hR, hk0]; exact TakeIs.none))
          unfold TakeDone at HD
          clear hR
          go_wp2_with fail
          all_goals exact bodyPost_ret (v := .tuple #[.agg #[.int .i64 1, .int .i64 0, .string (stB nm), .slice none 0 0], .int .i64 (k : Nat)]) (by simp [results, Tryz.results46, go_sem, *]) rfl HD.out
        have c0 : ((k : Int) == 0) = false := by simp; omega
        have hnm : nm ≠ [] := fun h => hk0 (by rw [h] at hnl; simpa using hnl.symm)
        by_cases hks : k = s.size
        · have c1 : ((k : Int) == (s.size : Int)) = true := by simp; omega
          have hR : R = some (.mk 1 0 (stB nm) [], l.drop k) := by
            rw [HR.out, nameR_con (by rw [HNW.out]; exact hnm) (by rw [HDW.out, HLs.out, at_end (by omega)]; simp), HNW.out, HDW.out]
          have HD := Lib.hid (HL.out (.int .i64 1) (.int .i64 0) (.string (stB nm)) (.slice none 0 0) (by
            rw [hR]
            exact ⟨fun h => by (cases h), fun x hx => by cases hx; exact ⟨rfl, by omega, by rw [List.length_drop]; omega, rfl⟩⟩))
          unfold TakeDone at HD
          clear hR
          go_wp2_with fail
          all_goals exact bodyPost_ret (v := .tuple #[.agg #[.int .i64 1, .int .i64 0, .string (stB nm), .slice none 0 0], .int .i64 (k : Nat)]) (by simp [results, Tryz.results46, go_sem, *]) rfl HD.out
        have hklt : k < s.size := by omega
        have c1 : ((k : Int) == (s.size : Int)) = false := by simp; omega
        have g3 : (k : Int) < (s.size : Int) := by omega
        have hak := at_rest hklt
        rw [← HLs.out] at hak
        by_cases hc4 : s[k] = 40
        case neg =>
          have c2 : ((s[k].toNat : Int) == 40) = false := by
            have : s[k].toNat ≠ 40 := fun h => hc4 (UInt8.toNat_inj.1 (by simpa using h))
            simp; omega
          have hR : R = some (.mk 1 0 (stB nm) [], l.drop k) := by
            rw [HR.out, nameR_con (by rw [HNW.out]; exact hnm) (by rw [HDW.out, hak]; simpa using hc4), HNW.out, HDW.out]
          have HD := Lib.hid (HL.out (.int .i64 1) (.int .i64 0) (.string (stB nm)) (.slice none 0 0) (by
            rw [hR]
            exact ⟨fun h => by (cases h), fun x hx => by cases hx; exact ⟨rfl, by omega, by rw [List.length_drop]; omega, rfl⟩⟩))
          unfold TakeDone at HD
          clear hR hc4 hak
          go_wp2_with fail
          all_goals exact bodyPost_ret (v := .tuple #[.agg #[.int .i64 1, .int .i64 0, .string (stB nm), .slice none 0 0], .int .i64 (k : Nat)]) (by simp [results, Tryz.results46, go_sem, *]) rfl HD.out
        have c2 : ((s[k].toNat : Int) == 40) = true := by rw [hc4]; rfl
        have hl1 : (l.dropWhile isAl).tail = l.drop (k + 1) := by rw [HDW.out, List.tail_drop]
        have HRS : Hid (R = strR nm (moreR p (l.drop (k + 1)))) := by
          show _ = _
          rw [HR.out, nameR_str (by rw [HNW.out]; exact hnm) (by rw [HDW.out, hak, hc4]), HNW.out, hl1]
        clear hl1 HR HL hnm hc4 hak
        have HPC := Lib.hid hpc
        go_upto_block 4 with fail
        have hset : Keeps w1 (w1.setCell ⟨g, 0, none⟩ (.int .i64 2)) [g] := (Keeps.refl w1 [g]).setCell (.inl (by simp)) _
        have hst5 : TSt 24 (fun b => w.heap.size ≤ b) w (w1.setCell ⟨g, 0, none⟩ (.int .i64 2)) [] [(w.heap.size, 24, #[.int .i64 0, .int .i64 0, .string ⟨#[]⟩, .slice none 0 0])] g 2 0 (stB nm) [] [] none 0 0 :=
          TSt.start (by
            intro x hx
            simp only [List.mem_cons, List.not_mem_nil, or_false] at hx
            subst hx
            exact ⟨HB1.out.keep hset (by simp; omega), by simp; omega⟩) (by have := HG1.out.set_ 0 (.int .i64 2); simpa using this) (HK1.out.setCell (.inr (by simp; omega)) _) (by omega) (fun b h => h) (by rw [stB_size]; omega)
        generalize w1.setCell ⟨g, 0, none⟩ (.int .i64 2) = w5 at *
        have HST5 := Lib.hid hst5
        clear hset hst5 zc0 zc1 zc2 zc3 zf0 zf1 zf2 zf3 yc0 yc1 yc2 yc3 yf0 yf1 yf2 yf3 HB1 HG1 HK1 hgg
        obtain ⟨R2, hR2⟩ : ∃ R2, moreR p (l.drop (k + 1)) = R2 := ⟨_, rfl⟩
        have HR2 := Lib.hid hR2
        rw [hR2] at HRS
        clear hR2 hnl
        go_wp2_with fail
        go_loopw [10] (fun kv wr => ∃ (q j : Nat) (A2 : Option Addr) (cc : Nat) (us : List TV) (args : List Tm), kv = .int .i64 q ∧ q ≤ s.size ∧ TSt 24 (fun b => w.heap.size ≤ b) w wr [] [(w.heap.size, 24, #[.int .i64 0, .int .i64 0, .string ⟨#[]⟩, .slice none 0 0])] g 2 0 (stB nm) args us A2 j cc ∧ ((j = 0 ∧ q = k ∧ args = []) ∨ (1 ≤ j ∧ MoreSt p R2 s.size args j (some (l.drop q))))) (fun kv _ => s.size + 1 - (intOf kv).toNat)
        case atStart => exact ⟨k, 0, none, 0, [], [], rfl, hk, HST5.out, .inl ⟨rfl, rfl, rfl⟩⟩
        case round =>
          clear HST5
          obtain ⟨q, j, A2, cc, us, args, rfl, hq, hst, hms⟩ := hrel
          have HST := Lib.hid hst
          have e3 := hst.out.cell 3
          have hgw := hst.out.lt
          clear hst
          rcases hms with ⟨rfl, rfl, rfl⟩ | ⟨hj1, hms⟩
          · have hi := HI.out (s.extract (q + 1) s.size) wr (by rw [ext_size]; omega)
            rw [ext_list, ← HLs.out] at hi
            have HI1 := Lib.hid hi
            have i1a : (0 : Int) ≤ (q : Int) + 1 := by omega
            have i1b : (q : Int) + 1 ≤ (s.size : Int) := by omega
            unfold TakeDone at HI1
            clear hi
            go_wp2_with fail
            refine HI1.out.mono ?_
            rintro e w6 ⟨t1, v1, n1, rfl, ht1, k1, i1⟩
            have hs6 := (HST.out.keep0 k1).keep0 ((Keeps.refl w6 []).alloc (.cells #[.int .i64 v1.k, .int .i64 v1.n, .string v1.s, .slice v1.A v1.len v1.c] 24))
            have HS6 := Lib.hid hs6
            have HF6 := Lib.hid (HST.out.fresh ht1)
            have hb := (hs6.fix (w.heap.size, 24, #[.int .i64 0, .int .i64 0, .string ⟨#[]⟩, .slice none 0 0]) (by simp)).1
            have hgc := hs6.out.cell 3
            have zc0 := hb.cell 0
            have zf0 := hb.frozen 0
            have zc1 := hb.cell 1
            have zf1 := hb.frozen 1
            have zc2 := hb.cell 2
            have zf2 := hb.frozen 2
            have zc3 := hb.cell 3
            have zf3 := hb.frozen 3
            unfold tvV
            have hK6 := hs6.keep
            clear hb ht1 k1 e3 HI1 hs6
            cases hp1 : p (l.drop (q + 1)) with
            | none =>
              obtain rfl : n1 = 0 := i1.no hp1
              have hR : R = none := by rw [HRS.out, ← HR2.out, moreR, hp1, Option.bind_none]; rfl
              have HD := Lib.hid (TakeDone.none4 (l := l) hK6 (Nat.le_refl _) (.int .i64 0) (.int .i64 0) (.string ⟨#[]⟩) (.slice none 0 0))
              rw [← hR] at HD
              unfold TakeDone at HD
              clear hR i1 hp1
              go_wp2_with fail
              exact bodyPost_ret (v := .tuple #[.agg #[.int .i64 0, .int .i64 0, .string ⟨#[]⟩, .slice none 0 0], .int .i64 0]) (by simp [results, Tryz.results46, go_sem, *]) rfl HD.out
            | some x =>
              obtain ⟨hx1, hn1, hl1, hd1⟩ := i1.yes x hp1
              rw [List.drop_drop] at hd1
              rw [List.length_drop, hsl] at hl1
              have n0 : ((n1 : Int) == 0) = false := by simp; omega
              have HMN : Hid (MoreSt p R2 s.size ([] ++ [t1]) (0 + 1) (some (l.drop (q + 1 + n1)))) := by
                show MoreSt _ _ _ _ _ _
                rw [← hd1]
                have hm := MoreSt.start (p := p) (N := s.size) (l := l.drop (q + 1)) (t := t1) (by rw [List.length_drop, hsl]; omega) (by rw [List.length_drop, hsl]; omega) HP.out (fun y hy => by rw [hp1] at hy; cases hy; exact hx1)
                rw [hp1, HR2.out] at hm
                exact hm
              clear hp1 hx1 hd1 i1
              go_wp2_with (at_builtin; refine wpList_app _ el_rterm rfl (.tmp 212) (.tmp 214) rfl w.heap.size A2 0 cc (us.flatMap tvE) rfl (HS6.out.keep0 ((Keeps.refl _ []).alloc (.cells #[.int .i64 v1.k, .int .i64 v1.n, .string v1.s, .slice v1.A v1.len v1.c] 24))).row (some ⟨w6.heap.size + 1, 0, none⟩) 1 1 (tvE v1) rfl (by have h9 := Rd.one (w6.alloc (.cells #[.int .i64 v1.k, .int .i64 v1.n, .string v1.s, .slice v1.A v1.len v1.c] 24)) 24 (tvE v1); rw [World.size_alloc] at h9; exact h9) rfl (by simp) (by simp [tvE, Value.oneCell']) (by omega) (by have := HS6.out.keep.size; simp at this ⊢; omega) ?_; intro A' c' w9 hown hgrow hat; have hs7 := HS6.out.keep0 ((Keeps.refl _ []).alloc (.cells #[.int .i64 v1.k, .int .i64 v1.n, .string v1.s, .slice v1.A v1.len v1.c] 24)); have hg9 := hs7.out.grown hgrow (fun e => hs7.low.2.1 (by unfold ownL; rw [← e]; simp)); have u3 := hg9.cell 3; have uf3 := hg9.frozen 3; have HN7 := Lib.hid (hs7.step (Keeps.refl _ []) ((HF6.out.keep ((Keeps.refl w6 []).alloc _)).keep ((Keeps.refl _ []).alloc _)) hown hgrow hat); clear hs7 hg9 hown hgrow hat)
              go_roundw
              case rel => exact ⟨q + 1 + n1, 0 + 1, A', c', _, _, by go_num, by omega, HN7.out, .inr ⟨by omega, HMN.out⟩⟩
              case measure => simp [intOf]; omega
          · have HMS := Lib.hid hms
            have hjf := hms.few
            have hj0 : ((j : Int) == 0) = false := by simp; omega
            clear hms
            by_cases hqlt : q < s.size
            · have hatq := at_rest hqlt
              rw [← HLs.out] at hatq
              have x1 : (0 : Int) ≤ (q : Int) := Int.natCast_nonneg _
              have x2 : (q : Int) < (s.size : Int) := by omega
              by_cases h44 : s[q] = 44
              · have hh44 : (l.drop q).head? = some 44 := by rw [hatq, h44]
                have htq : (l.drop q).tail = l.drop (q + 1) := by rw [List.tail_drop]
                have y1 : ((s[q].toNat : Int) == 40) = false := by rw [h44]; rfl
                have y2 : ((s[q].toNat : Int) == 44) = true := by rw [h44]; rfl
                clear hatq h44
                have hi := HI.out (s.extract (q + 1) s.size) wr (by rw [ext_size]; omega)
                rw [ext_list, ← HLs.out] at hi
                have HI1 := Lib.hid hi
                have i1a : (0 : Int) ≤ (q : Int) + 1 := by omega
                have i1b : (q : Int) + 1 ≤ (s.size : Int) := by omega
                unfold TakeDone at HI1
                clear hi
                go_wp2_with fail
                refine HI1.out.mono ?_
                rintro e w6 ⟨t1, v1, n1, rfl, ht1, k1, i1⟩
                have hs6 := (HST.out.keep0 k1).keep0 ((Keeps.refl w6 []).alloc (.cells #[.int .i64 v1.k, .int .i64 v1.n, .string v1.s, .slice v1.A v1.len v1.c] 24))
                have HS6 := Lib.hid hs6
                have HF6 := Lib.hid (HST.out.fresh ht1)
                have hb := (hs6.fix (w.heap.size, 24, #[.int .i64 0, .int .i64 0, .string ⟨#[]⟩, .slice none 0 0]) (by simp)).1
                have hgc := hs6.out.cell 3
                have zc0 := hb.cell 0
                have zf0 := hb.frozen 0
                have zc1 := hb.cell 1
                have zf1 := hb.frozen 1
                have zc2 := hb.cell 2
                have zf2 := hb.frozen 2
                have zc3 := hb.cell 3
                have zf3 := hb.frozen 3
                unfold tvV
                have hK6 := hs6.keep
                clear hb ht1 k1 e3 HI1 hs6
                cases hp1 : p (l.drop (q + 1)) with
                | none =>
                  obtain rfl : n1 = 0 := i1.no hp1
                  have hR : R = none := by rw [HRS.out, show R2 = none from (HMS.out.step hh44 HP.out (t := t1) (fun y hy => by rw [htq, hp1] at hy; cases hy)).bad (by rw [htq, hp1]; rfl)]; rfl
                  have HD := Lib.hid (TakeDone.none4 (l := l) hK6 (Nat.le_refl _) (.int .i64 0) (.int .i64 0) (.string ⟨#[]⟩) (.slice none 0 0))
                  rw [← hR] at HD
                  unfold TakeDone at HD
                  clear hR i1 hp1
                  go_wp2_with fail
                  exact bodyPost_ret (v := .tuple #[.agg #[.int .i64 0, .int .i64 0, .string ⟨#[]⟩, .slice none 0 0], .int .i64 0]) (by simp [results, Tryz.results46, go_sem, *]) rfl HD.out
                | some x =>
                  obtain ⟨hx1, hn1, hl1, hd1⟩ := i1.yes x hp1
                  rw [List.drop_drop] at hd1
                  rw [List.length_drop, hsl] at hl1
                  have n0 : ((n1 : Int) == 0) = false := by simp; omega
                  have HMN : Hid (MoreSt p R2 s.size (args ++ [t1]) (j + 1) (some (l.drop (q + 1 + n1)))) := by
                    show MoreSt _ _ _ _ _ _
                    rw [← hd1]
                    have hm := HMS.out.step (t := t1) hh44 HP.out (fun y hy => by rw [htq, hp1] at hy; cases hy; exact hx1)
                    rw [htq, hp1] at hm
                    exact hm
                  clear hp1 hx1 hd1 i1
                  go_wp2_with (at_builtin; refine wpList_app _ el_rterm rfl (.tmp 212) (.tmp 214) rfl w.heap.size A2 j cc (us.flatMap tvE) rfl (HS6.out.keep0 ((Keeps.refl _ []).alloc (.cells #[.int .i64 v1.k, .int .i64 v1.n, .string v1.s, .slice v1.A v1.len v1.c] 24))).row (some ⟨w6.heap.size + 1, 0, none⟩) 1 1 (tvE v1) rfl (by have h9 := Rd.one (w6.alloc (.cells #[.int .i64 v1.k, .int .i64 v1.n, .string v1.s, .slice v1.A v1.len v1.c] 24)) 24 (tvE v1); rw [World.size_alloc] at h9; exact h9) rfl (by simp) (by simp [tvE, Value.oneCell']) (by omega) (by have := HS6.out.keep.size; simp at this ⊢; omega) ?_; intro A' c' w9 hown hgrow hat; have hs7 := HS6.out.keep0 ((Keeps.refl _ []).alloc (.cells #[.int .i64 v1.k, .int .i64 v1.n, .string v1.s, .slice v1.A v1.len v1.c] 24)); have hg9 := hs7.out.grown hgrow (fun e => hs7.low.2.1 (by unfold ownL; rw [← e]; simp)); have u3 := hg9.cell 3; have uf3 := hg9.frozen 3; have HN7 := Lib.hid (hs7.step (Keeps.refl _ []) ((HF6.out.keep ((Keeps.refl w6 []).alloc _)).keep ((Keeps.refl _ []).alloc _)) hown hgrow hat); clear hs7 hg9 hown hgrow hat)
                  go_roundw
                  case rel => exact ⟨q + 1 + n1, j + 1, A', c', _, _, by go_num, by omega, HN7.out, .inr ⟨by omega, HMN.out⟩⟩
                  case measure => simp [intOf]; omega
              · have hfin := HMS.out.fin (fun s' hs' hc => by cases hs'; rw [hatq] at hc; exact h44 (by injection hc)) nm
                have y2 : ((s[q].toNat : Int) == 44) = false := by
                  have : s[q].toNat ≠ 44 := fun h => h44 (UInt8.toNat_inj.1 (by simpa using h))
                  simp; omega
                have hqs : ((q : Int) == (s.size : Int)) = false := by simp; omega
                by_cases h41 : s[q] = 41
                · have y1 : ((s[q].toNat : Int) == 40) = false := by rw [h41]; rfl
                  have y3 : ((s[q].toNat : Int) == 41) = true := by rw [h41]; rfl
                  have hw : wantO 41 (some (l.drop q)) = some (l.drop (q + 1)) := by simp [wantO, hatq, h41, List.tail_drop]
                  have hTI : TakeIs l (.mk 2 0 (stB nm) args) (q + 1) R := by
                    rw [HRS.out]
                    refine ⟨fun h => ?_, fun z hz => ?_⟩
                    · have := hfin.1; rw [h, hw] at this; cases this
                    · have h9 := hfin.1
                      rw [hz, hw] at h9
                      have h8 : z.2 = l.drop (q + 1) := by simpa using h9
                      exact ⟨hfin.2 z hz, by omega, by rw [h8, List.length_drop]; omega, h8⟩
                  have hd := HST.out.done (by omega)
                  have hb := (HST.out.fix (w.heap.size, 24, #[.int .i64 0, .int .i64 0, .string ⟨#[]⟩, .slice none 0 0]) (by simp)).1
                  have hgc := HST.out.out
                  have zc0 := hb.cell 0
                  have zf0 := hb.frozen 0
                  have yc0 := hgc.cell 0
                  have zc1 := hb.cell 1
                  have zf1 := hb.frozen 1
                  have yc1 := hgc.cell 1
                  have zc2 := hb.cell 2
                  have zf2 := hb.frozen 2
                  have yc2 := hgc.cell 2
                  have zc3 := hb.cell 3
                  have zf3 := hb.frozen 3
                  have yc3 := hgc.cell 3
                  have hdn := TakeDone.hand (w := w) (g := w.heap.size) (hd.mono (S' := fun b => w.heap.size ≤ b ∧ b ≠ w.heap.size) fun b hb => ⟨hb.1, hb.2.2 (w.heap.size, 24, #[.int .i64 0, .int .i64 0, .string ⟨#[]⟩, .slice none 0 0]) (by simp)⟩) HST.out.keep hTI (Nat.le_refl _) (.int .i64 2) (.int .i64 0) (.string (stB nm)) (.slice A2 j cc)
                  rw [show ((q + 1 : Nat) : Int) = (q : Int) + 1 by omega] at hdn
                  unfold TakeDone tvV at hdn
                  have HD := Lib.hid hdn
                  clear hdn hTI hw hfin hd hb hgc hatq h41 h44 e3
                  go_wp2_with fail
                  exact bodyPost_ret (v := .tuple #[.agg #[.int .i64 2, .int .i64 0, .string (stB nm), .slice A2 j cc], .int .i64 ((q : Int) + 1)]) (by simp [results, Tryz.results46, go_sem, *]) rfl HD.out
                · have y3 : ((s[q].toNat : Int) == 41) = false := by
                    have : s[q].toNat ≠ 41 := fun h => h41 (UInt8.toNat_inj.1 (by simpa using h))
                    simp; omega
                  have hR : R = none := by
                    have hw : wantO 41 (some (l.drop q)) = none := by simp [wantO, hatq, h41]
                    have h9 := hfin.1
                    rw [hw] at h9
                    rw [HRS.out]
                    simpa using h9
                  by_cases h40 : s[q] = 40
                  · have y1 : ((s[q].toNat : Int) == 40) = true := by rw [h40]; rfl
                    clear hfin hatq h41 h44 h40
                    have hb := (HST.out.fix (w.heap.size, 24, #[.int .i64 0, .int .i64 0, .string ⟨#[]⟩, .slice none 0 0]) (by simp)).1
                    have zc0 := hb.cell 0
                    have zf0 := hb.frozen 0
                    have zc1 := hb.cell 1
                    have zf1 := hb.frozen 1
                    have zc2 := hb.cell 2
                    have zf2 := hb.frozen 2
                    have zc3 := hb.cell 3
                    have zf3 := hb.frozen 3
                    have hK6 := HST.out.keep
                    have HD := Lib.hid (TakeDone.none4 (l := l) hK6 (Nat.le_refl _) (.int .i64 0) (.int .i64 0) (.string ⟨#[]⟩) (.slice none 0 0))
                    rw [← hR] at HD
                    unfold TakeDone at HD
                    clear hR hb
                    go_wp2_with fail
                    exact bodyPost_ret (v := .tuple #[.agg #[.int .i64 0, .int .i64 0, .string ⟨#[]⟩, .slice none 0 0], .int .i64 0]) (by simp [results, Tryz.results46, go_sem, *]) rfl HD.out
                  · have y1 : ((s[q].toNat : Int) == 40) = false := by
                      have : s[q].toNat ≠ 40 := fun h => h40 (UInt8.toNat_inj.1 (by simpa using h))
                      simp; omega
                    clear hfin hatq h41 h44 h40
                    have hb := (HST.out.fix (w.heap.size, 24, #[.int .i64 0, .int .i64 0, .string ⟨#[]⟩, .slice none 0 0]) (by simp)).1
                    have zc0 := hb.cell 0
                    have zf0 := hb.frozen 0
                    have zc1 := hb.cell 1
                    have zf1 := hb.frozen 1
                    have zc2 := hb.cell 2
                    have zf2 := hb.frozen 2
                    have zc3 := hb.cell 3
                    have zf3 := hb.frozen 3
                    have hK6 := HST.out.keep
                    have HD := Lib.hid (TakeDone.none4 (l := l) hK6 (Nat.le_refl _) (.int .i64 0) (.int .i64 0) (.string ⟨#[]⟩) (.slice none 0 0))
                    rw [← hR] at HD
                    unfold TakeDone at HD
                    clear hR hb
                    go_wp2_with fail
                    exact bodyPost_ret (v := .tuple #[.agg #[.int .i64 0, .int .i64 0, .string ⟨#[]⟩, .slice none 0 0], .int .i64 0]) (by simp [results, Tryz.results46, go_sem, *]) rfl HD.out
            · obtain rfl : q = s.size := by omega
              have hR : R = none := by
                have hfin := HMS.out.fin (fun s' hs' hc => by cases hs'; rw [HLs.out, at_end (Nat.le_refl _)] at hc; cases hc) nm
                have hw : wantO 41 (some (l.drop s.size)) = none := by rw [HLs.out]; simp [wantO, at_end (Nat.le_refl s.size)]
                have h9 := hfin.1
                rw [hw] at h9
                rw [HRS.out]
                simpa using h9
              clear hqlt hq
              have hb := (HST.out.fix (w.heap.size, 24, #[.int .i64 0, .int .i64 0, .string ⟨#[]⟩, .slice none 0 0]) (by simp)).1
              have zc0 := hb.cell 0
              have zf0 := hb.frozen 0
              have zc1 := hb.cell 1
              have zf1 := hb.frozen 1
              have zc2 := hb.cell 2
              have zf2 := hb.frozen 2
              have zc3 := hb.cell 3
              have zf3 := hb.frozen 3
              have hK6 := HST.out.keep
              have HD := Lib.hid (TakeDone.none4 (l := l) hK6 (Nat.le_refl _) (.int .i64 0) (.int .i64 0) (.string ⟨#[]⟩) (.slice none 0 0))
              rw [← hR] at HD
              unfold TakeDone at HD
              clear hR hb
              go_wp2_with fail
              exact bodyPost_ret (v := .tuple #[.agg #[.int .i64 0, .int .i64 0, .string ⟨#[]⟩, .slice none 0 0], .int .i64 0]) (by simp [results, Tryz.results46, go_sem, *]) rfl HD.out
    · exfalso
      obtain ⟨c, hcc, _⟩ := HBr.out
      have hnone : ∀ j, k ≤ j → l[j]? = none := fun j hj => List.getElem?_eq_none (by omega)
      obtain ⟨hnw, _⟩ := HST.out (fun c hc => by rw [hnone k (Nat.le_refl _)] at hc; cases hc)
      rw [hnw, hnm0, hnl, hnone k (Nat.le_refl _)] at hcc
      cases hcc
end Go.Proofs.YtnonfmaehfmigaaGreatDoor
