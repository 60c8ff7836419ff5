/- The program's reader: skip, want, while, number. -/
import Derived.Test.YtjbomjnkjcafcaaDoorTmText
import Derived.Test.YtjbomjnkjcafcaaDoorTmRight
import Derived.Lib.AtoiAll
namespace Go.Proofs.YtjbomjnkjcafcaaDoor
open Go.RowKit

theorem lt_cell6 {w : World} {a : Addr} {v : Value} (h : w.cell? a = some v) : a.block < w.heap.size := by
  unfold World.cell? at h
  cases hb : w.heap[a.block]? with
  | none => rw [hb] at h; simp at h
  | some o => exact (Array.getElem?_eq_some_iff.1 hb).1
theorem Keeps.past6 {a b c : World} {S T : List Nat} (h : Keeps a b S) (k : Keeps b c T) (hT : ∀ q, q ∈ T → q ∈ S ∨ a.heap.size ≤ q) : Keeps a c S :=
  ⟨k.os.trans h.os, k.tape.trans h.tape, k.output.trans h.output, Nat.le_trans h.size k.size, fun i hi hn => (k.block i (Nat.lt_of_lt_of_le hi h.size) (fun hm => by
    rcases hT i hm with h' | h'
    · exact hn h'
    · omega)).trans (h.block i hi hn)⟩
def insC6 (op : Int) (l : List Int) : Array Value := #[.int .i64 op, .int .i64 (l.getD 0 0), .int .i64 (l.getD 1 0), .int .i64 (l.getD 2 0), .int .i64 (l.getD 3 0)]
/-- What the library's own variables hold. -/
structure St (w : World) : Prop where
  tab : Tab w
  syn : ∃ ev, w.cell? ⟨2, 0, none⟩ = some ev ∧ (ev = .nilIface ∨ ∃ te pe, ev = .iface te pe)
  rng : ∃ ev, w.cell? ⟨3, 0, none⟩ = some ev ∧ (ev = .nilIface ∨ ∃ te pe, ev = .iface te pe)
theorem St.keep {w w' : World} (h : St w) (k : Keeps w w' []) : St w' := by
  obtain ⟨ht, ⟨e1, h1, h1'⟩, ⟨e2, h2, h2'⟩⟩ := h
  exact ⟨ht.keep k, ⟨e1, (k.cell (lt_cell6 h1) (by simp)).trans h1, h1'⟩, ⟨e2, (k.cell (lt_cell6 h2) (by simp)).trans h2, h2'⟩⟩
def atoiV : List UInt8 → Option Int := fun l => match Lib.atoiAll l with
  | .ok v => some v
  | _ => none
/-- strconv.Atoi at every text: the number and no error; or an error. -/
theorem atoi_any (s : ByteArray) (hl : s.size ≤ 281474976710656) (w : World) (h : St w) :
    Calls Tryd.prog 57 #[.string s] w fun e w' => Keeps w w' [] ∧ (match atoiV s.data.toList with
      | some v => e = .returned (.tuple #[.int .i64 v, .nilIface])
      | none => ∃ n t p, e = .returned (.tuple #[.int .i64 n, .iface t p])) := by
  unfold atoiV
  cases ha : Lib.atoiAll s.data.toList with
  | ok v =>
    refine (Tryd.strconv_Atoi_ok s (by omega) v ha w).mono ?_
    rintro e w' ⟨rfl, hw⟩
    refine ⟨?_, rfl⟩
    rcases hw with rfl | ⟨t, rfl⟩
    · exact Keeps.refl _ _
    · exact Keeps.nil_of (Lib.bytesWorld_below _ _ _)
  | range =>
    obtain ⟨ev, h1, h2⟩ := h.rng
    refine (Tryd.strconv_Atoi_range s hl ha ev w h1 h2).mono ?_
    rintro e w' ⟨N, rfl, _, _, hb⟩
    exact ⟨Keeps.nil_of hb, _, _, _, rfl⟩
  | _ =>
    obtain ⟨ev, h1, h2⟩ := h.syn
    refine (Tryd.strconv_Atoi_syntax s hl ha ev w h1 h2).mono ?_
    rintro e w' ⟨N, rfl, _, _, hb⟩
    exact ⟨Keeps.nil_of hb, _, _, _, rfl⟩
theorem dat_at (s : ByteArray) (j : Nat) (h : j < s.size) : s.data.toList[j]? = some s[j] := by
  rw [Array.getElem?_toList, Array.getElem?_eq_getElem h]
  rfl
theorem piece_is (s : ByteArray) (f i : Nat) : s.extract f i = stB ((s.data.toList.take i).drop f) := by
  have h : (s.extract f i).data.toList = (s.data.toList.take i).drop f := by rw [Lib.extract_data, List.drop_take]
  rw [← h, stB_of]

/-- A reader: w0 is the world before it was. -/
structure RSt (w0 w : World) (rb : Nat) (l : Txt) (bad : Bool) : Prop where
  st : St w0
  k0 : Keeps w0 w []
  low : w0.heap.size ≤ rb
  blk : Blk w rb 54 #[.string (stB l), .bool bad]
  few : l.length ≤ 10000
theorem RSt.now {w0 w : World} {rb : Nat} {l : Txt} {bad : Bool} (h : RSt w0 w rb l bad) : St w := h.st.keep h.k0
theorem RSt.keep {w0 w w' : World} {rb : Nat} {l : Txt} {bad : Bool} (h : RSt w0 w rb l bad) (k : Keeps w w' []) : RSt w0 w' rb l bad := ⟨h.st, h.k0.trans k, h.low, h.blk.keep k (by simp), h.few⟩
theorem RSt.put {w0 w w' : World} {rb : Nat} {l l' : Txt} {bad bad' : Bool} (h : RSt w0 w rb l bad) (b : Blk w' rb 54 #[.string (stB l'), .bool bad']) (k : Keeps w w' [rb]) (hf : l'.length ≤ 10000) : RSt w0 w' rb l' bad' ∧ Keeps w w' [rb] :=
  ⟨⟨h.st, h.k0.past6 k (by have := h.low; simp; omega), h.low, b, hf⟩, k⟩
theorem tail_ext (s : ByteArray) : s.extract 1 s.size = stB s.data.toList.tail := by
  rw [piece_is, List.take_of_length_le (show s.data.toList.length ≤ s.size from Nat.le_refl _), List.drop_one]

set_option maxHeartbeats 800000 in
theorem skip_no (w0 w : World) (rb : Nat) (l : Txt) (bad : Bool) (c : Int) (h : RSt w0 w rb l bad) (hn : bad = true ∨ ∀ d : UInt8, l.head? = some d → (d.toNat : Int) ≠ c) :
    Calls Tryd.prog 44 #[.pointer (some ⟨rb, 0, none⟩), .int .u8 c] w fun e w' => e = .returned (.bool false) ∧ w = w' := by
  have q0 := h.blk.cell 0
  have q1 := h.blk.cell 1
  obtain ⟨s, hs⟩ : ∃ s, stB l = s := ⟨_, rfl⟩
  have hsl : l = s.data.toList := by rw [← hs, stB_list]
  rw [hs] at q0
  clear h hs
  cases bad with
  | true =>
    clear hn hsl
    go_enter Tryd.func44, Tryd.ntmps44
    go_wp2_with fail
    go_ret
    exact ⟨rfl, rfl⟩
  | false =>
    have hn2 : ∀ d : UInt8, s.data.toList.head? = some d → (d.toNat : Int) ≠ c := by
      rcases hn with hn | hn
      · cases hn
      · rw [hsl] at hn; exact hn
    by_cases h0 : s.size = 0
    · have d0 : s.toList.isEmpty = true := by rw [empty_size]; simpa using h0
      clear hn hn2 hsl
      go_enter Tryd.func44, Tryd.ntmps44
      go_wp2_with fail
      go_ret
      exact ⟨rfl, rfl⟩
    · have d0 : s.toList.isEmpty = false := by rw [empty_size]; simpa using h0
      have h3 : 0 < s.size := by omega
      have h4 : s.data.toList.head? = some s[0] := by rw [List.head?_eq_getElem?]; exact dat_at s 0 h3
      have d1 : ((s[0].toNat : Int) == c) = false := by simpa using hn2 _ h4
      clear hn hn2 hsl h4
      go_enter Tryd.func44, Tryd.ntmps44
      go_wp2_with fail
      go_ret
      exact ⟨rfl, rfl⟩
set_option maxHeartbeats 800000 in
theorem skip_yes (w0 w : World) (rb : Nat) (l : Txt) (c : UInt8) (ci : Int) (hci : ci = (c.toNat : Int)) (h : RSt w0 w rb l false) (hn : l.head? = some c) :
    Calls Tryd.prog 44 #[.pointer (some ⟨rb, 0, none⟩), .int .u8 ci] w fun e w' => e = .returned (.bool true) ∧ RSt w0 w' rb l.tail false ∧ Keeps w w' [rb] := by
  have q0 := h.blk.cell 0
  have q1 := h.blk.cell 1
  have f0 := h.blk.frozen 0
  obtain ⟨s, hs⟩ : ∃ s, stB l = s := ⟨_, rfl⟩
  have hsl : l = s.data.toList := by rw [← hs, stB_list]
  have hb := h.blk
  rw [hs] at q0 hb
  have HS := Lib.hid h
  have HB := Lib.hid hb
  have hf := h.few
  clear h hs hb
  rw [hsl] at hn
  have h3 : 0 < s.size := by
    have : s.data.toList.length = s.size := rfl
    cases hl : s.data.toList with
    | nil => rw [hl] at hn; cases hn
    | cons a b => rw [hl] at this; simp at this; omega
  have d0 : s.toList.isEmpty = false := by rw [empty_size]; exact decide_eq_false (by omega)
  have h4 : s.data.toList.head? = some s[0] := by rw [List.head?_eq_getElem?]; exact dat_at s 0 h3
  rw [h4] at hn
  have hc : s[0] = c := by injection hn
  have hszb : s.size ≤ 10000 := by rw [hsl] at hf; exact hf
  have hx := tail_ext s
  rw [← hsl] at hx
  have HX := Lib.hid hx
  have HF : Hid (l.tail.length ≤ 10000) := by show _ ≤ _; rw [List.length_tail]; omega
  have d1 : ((s[0].toNat : Int) == ci) = true := by rw [hc, hci]; simp
  clear hn h4 hsl hf hx hc hci
  go_enter Tryd.func44, Tryd.ntmps44
  go_wp2_with fail
  go_ret
  exact ⟨rfl, HS.out.put (by have := HB.out.set_ 0 (.string (s.extract 1 s.size)); simpa [HX.out] using this) ((Keeps.refl w [rb]).setCell (.inl (by simp)) _) HF.out⟩

set_option maxHeartbeats 800000 in
theorem want_yes (w0 w : World) (rb : Nat) (l : Txt) (c : UInt8) (ci : Int) (hci : ci = (c.toNat : Int)) (h : RSt w0 w rb l false) (hn : l.head? = some c) :
    Calls Tryd.prog 49 #[.pointer (some ⟨rb, 0, none⟩), .int .u8 ci] w fun e w' => e = .returned (.tuple #[]) ∧ RSt w0 w' rb l.tail false ∧ Keeps w w' [rb] := by
  have HC := Lib.hid (skip_yes w0 w rb l c ci hci h hn)
  clear h hn hci
  go_enter Tryd.func49, Tryd.ntmps49
  go_wp2_with fail
  refine HC.out.mono ?_
  rintro e w1 ⟨rfl, h1, k1⟩
  have q1 := h1.blk.cell 1
  have f1 := h1.blk.frozen 1
  have H1 := Lib.hid h1
  have K1 := Lib.hid k1
  clear h1 k1
  go_wp2_with fail
  go_end0
  have hp := H1.out.put (l' := l.tail) (bad' := false) (w' := w1.setCell ⟨rb, 1, none⟩ (.bool false)) (by have := H1.out.blk.set_ 1 (.bool false); simpa using this) ((Keeps.refl w1 [rb]).setCell (.inl (by simp)) _) H1.out.few
  exact ⟨rfl, hp.1, K1.out.trans hp.2⟩
set_option maxHeartbeats 800000 in
theorem want_no (w0 w : World) (rb : Nat) (l : Txt) (bad : Bool) (c : Int) (h : RSt w0 w rb l bad) (hn : bad = true ∨ ∀ d : UInt8, l.head? = some d → (d.toNat : Int) ≠ c) :
    Calls Tryd.prog 49 #[.pointer (some ⟨rb, 0, none⟩), .int .u8 c] w fun e w' => e = .returned (.tuple #[]) ∧ RSt w0 w' rb l true ∧ Keeps w w' [rb] := by
  have HC := Lib.hid (skip_no w0 w rb l bad c h hn)
  have q1 := h.blk.cell 1
  have f1 := h.blk.frozen 1
  have H1 := Lib.hid h
  clear h hn
  go_enter Tryd.func49, Tryd.ntmps49
  go_wp2_with fail
  refine HC.out.mono ?_
  rintro e w1 ⟨rfl, rfl⟩
  go_wp2_with fail
  go_end0
  have hp := H1.out.put (l' := l) (bad' := true) (w' := w.setCell ⟨rb, 1, none⟩ (.bool true)) (by have := H1.out.blk.set_ 1 (.bool true); simpa using this) ((Keeps.refl w [rb]).setCell (.inl (by simp)) _) H1.out.few
  exact ⟨rfl, hp⟩

theorem digC_any (c : UInt8) (w : World) : Calls Tryd.prog 35 #[.int .u8 (c.toNat : Int)] w fun e w' => e = .returned (.bool (isDig c)) ∧ w = w' := by
  have h := digit_any (c.toNat : Int) w
  rw [show isDigit (c.toNat : Int) = isDig c by simp only [isDigit, isDig]; congr 1 <;> (apply decide_eq_decide.2; omega)] at h
  exact h
theorem smC_any (c : UInt8) (w : World) : Calls Tryd.prog 32 #[.int .u8 (c.toNat : Int)] w fun e w' => e = .returned (.bool (isSm c)) ∧ w = w' := by
  have h := small_any (c.toNat : Int) w
  rw [show isSmall (c.toNat : Int) = isSm c by simp only [isSmall, isSm]; congr 1 <;> (apply decide_eq_decide.2; omega)] at h
  exact h
set_option maxHeartbeats 800000 in
theorem alC_any (c : UInt8) (w : World) : Calls Tryd.prog 48 #[.int .u8 (c.toNat : Int)] w fun e w' => e = .returned (.bool (isAl c)) ∧ w = w' := by
  have HS := Lib.hid (smC_any c)
  have HD := Lib.hid (digC_any c)
  have HR : Hid (isAl c = (isSm c || isDig c)) := rfl
  cases hs : isSm c with
  | true =>
    rw [hs] at HS HR
    go_enter Tryd.func48, Tryd.ntmps48
    go_wp2_with (go_at_call 32; refine (HS.out _).mono ?_; rintro e w' ⟨rfl, rfl⟩)
    go_ret
    exact ⟨by rw [HR.out]; rfl, rfl⟩
  | false =>
    rw [hs, Bool.false_or] at HR
    rw [hs] at HS
    go_enter Tryd.func48, Tryd.ntmps48
    go_wp2_with (first | (go_at_call 32; refine (HS.out _).mono ?_; rintro e w' ⟨rfl, rfl⟩) | (go_at_call 35; refine (HD.out _).mono ?_; rintro e w' ⟨rfl, rfl⟩))
    go_ret
    exact ⟨by rw [HR.out]; rfl, rfl⟩

set_option maxHeartbeats 1600000 in
theorem whileDig_any (w0 w : World) (rb : Nat) (l : Txt) (bad : Bool) (h : RSt w0 w rb l bad) :
    Calls Tryd.prog 47 #[.pointer (some ⟨rb, 0, none⟩), .func (.func 35) #[] #[]] w fun e w' => e = .returned (.string (stB (l.takeWhile isDig))) ∧ RSt w0 w' rb (l.dropWhile isDig) bad ∧ Keeps w w' [rb] := by
  have q0 := h.blk.cell 0
  have f0 := h.blk.frozen 0
  have HS := Lib.hid h
  obtain ⟨s, hs⟩ : ∃ s, stB l = s := ⟨_, rfl⟩
  have hsl : l = s.data.toList := by rw [← hs, stB_list]
  have HL := Lib.hid hsl
  have hsz : s.size ≤ 10000 := by rw [← hs, stB_size]; exact h.few
  have hb := h.blk
  rw [hs] at q0 hb
  have HB := Lib.hid hb
  clear h hs hsl hb
  go_enter Tryd.func47, Tryd.ntmps47
  go_wp2_with fail
  go_loop [5] (fun i => ∃ k : Nat, k ≤ s.size ∧ i = .int .i64 k ∧ Hid (∀ c ∈ s.data.toList.take k, isDig c = true)) (fun i => s.size - (intOf i).toNat)
  case atStart => exact ⟨0, Nat.zero_le _, rfl, fun y hy => by simp at hy⟩
  case round =>
    obtain ⟨k, hk, rfl, HA⟩ := hrel
    have HE : Hid (∀ j, (∀ c, s.data.toList[j]? = some c → isDig c = false) → (∀ c ∈ s.data.toList.take j, isDig c = true) → j ≤ s.size → s.extract 0 j = stB (l.takeWhile isDig) ∧ s.extract j s.size = stB (l.dropWhile isDig)) := fun j h1 h2 h3 => by
      have e := take_stop (p := isDig) (a := s.data.toList.take j) (b := s.data.toList.drop j) h2 (fun c hc => h1 c (by rw [List.head?_drop] at hc; exact hc))
      rw [List.take_append_drop, ← HL.out] at e
      rw [e.1, e.2, piece_is, piece_is, List.drop_zero, ← HL.out]
      refine ⟨rfl, ?_⟩
      rw [List.take_of_length_le (by rw [HL.out]; exact Nat.le_refl _)]
    by_cases hlt : k < s.size
    · have hat := dat_at s k hlt
      have HAT := Lib.hid hat
      cases hp : isDig s[k] with
      | true =>
        have HA2 : Hid (∀ c ∈ s.data.toList.take (k + 1), isDig c = true) := by
          intro c hc
          rw [List.take_add_one, HAT.out] at hc
          rcases List.mem_append.1 hc with hc | hc
          · exact HA.out c hc
          · simp at hc; rw [hc]; exact hp
        have hcl := fun w => digC_any s[k] w
        rw [hp] at hcl
        have HC := Lib.hid hcl
        clear hcl hp hat HE
        go_wp2_with (go_at_call 35; refine (HC.out _).mono ?_; rintro e w' ⟨rfl, rfl⟩)
        go_round
        case rel => exact ⟨k + 1, by omega, by go_num, HA2⟩
        case measure => simp [intOf]; omega
      | false =>
        have hcl := fun w => digC_any s[k] w
        rw [hp] at hcl
        have HC := Lib.hid hcl
        obtain ⟨x1, x2⟩ := HE.out k (fun c hc => by rw [HAT.out] at hc; cases hc; exact hp) HA.out hk
        clear hcl hp hat HE
        go_wp2_with (first | (go_at_call 35; refine (HC.out _).mono ?_; rintro e w' ⟨rfl, rfl⟩))
        go_ret
        exact ⟨rfl, HS.out.put (by have := HB.out.set_ 0 (.string (stB (l.dropWhile isDig))); simpa using this) ((Keeps.refl w [rb]).setCell (.inl (by simp)) _) (Nat.le_trans (List.dropWhile_sublist _).length_le HS.out.few)⟩
    · obtain rfl : k = s.size := by omega
      obtain ⟨x1, x2⟩ := HE.out s.size (fun c hc => by have := (List.getElem?_eq_some_iff.1 hc).1; exact absurd this (Nat.lt_irrefl _)) HA.out hk
      have HE2 : Hid (stB (l.dropWhile isDig) = ByteArray.empty) := by show _ = _; rw [← x2]; simp
      clear HE x2
      go_wp2_with fail
      go_ret
      exact ⟨rfl, HS.out.put (by have := HB.out.set_ 0 (.string ByteArray.empty); rw [HE2.out]; simpa using this) ((Keeps.refl w [rb]).setCell (.inl (by simp)) _) (Nat.le_trans (List.dropWhile_sublist _).length_le HS.out.few)⟩

set_option maxHeartbeats 1600000 in
theorem whileAl_any (w0 w : World) (rb : Nat) (l : Txt) (bad : Bool) (h : RSt w0 w rb l bad) :
    Calls Tryd.prog 47 #[.pointer (some ⟨rb, 0, none⟩), .func (.func 48) #[] #[]] w fun e w' => e = .returned (.string (stB (l.takeWhile isAl))) ∧ RSt w0 w' rb (l.dropWhile isAl) bad ∧ Keeps w w' [rb] := by
  have q0 := h.blk.cell 0
  have f0 := h.blk.frozen 0
  have HS := Lib.hid h
  obtain ⟨s, hs⟩ : ∃ s, stB l = s := ⟨_, rfl⟩
  have hsl : l = s.data.toList := by rw [← hs, stB_list]
  have HL := Lib.hid hsl
  have hsz : s.size ≤ 10000 := by rw [← hs, stB_size]; exact h.few
  have hb := h.blk
  rw [hs] at q0 hb
  have HB := Lib.hid hb
  clear h hs hsl hb
  go_enter Tryd.func47, Tryd.ntmps47
  go_wp2_with fail
  go_loop [5] (fun i => ∃ k : Nat, k ≤ s.size ∧ i = .int .i64 k ∧ Hid (∀ c ∈ s.data.toList.take k, isAl c = true)) (fun i => s.size - (intOf i).toNat)
  case atStart => exact ⟨0, Nat.zero_le _, rfl, fun y hy => by simp at hy⟩
  case round =>
    obtain ⟨k, hk, rfl, HA⟩ := hrel
    have HE : Hid (∀ j, (∀ c, s.data.toList[j]? = some c → isAl c = false) → (∀ c ∈ s.data.toList.take j, isAl c = true) → j ≤ s.size → s.extract 0 j = stB (l.takeWhile isAl) ∧ s.extract j s.size = stB (l.dropWhile isAl)) := fun j h1 h2 h3 => by
      have e := take_stop (p := isAl) (a := s.data.toList.take j) (b := s.data.toList.drop j) h2 (fun c hc => h1 c (by rw [List.head?_drop] at hc; exact hc))
      rw [List.take_append_drop, ← HL.out] at e
      rw [e.1, e.2, piece_is, piece_is, List.drop_zero, ← HL.out]
      refine ⟨rfl, ?_⟩
      rw [List.take_of_length_le (by rw [HL.out]; exact Nat.le_refl _)]
    by_cases hlt : k < s.size
    · have hat := dat_at s k hlt
      have HAT := Lib.hid hat
      cases hp : isAl s[k] with
      | true =>
        have HA2 : Hid (∀ c ∈ s.data.toList.take (k + 1), isAl c = true) := by
          intro c hc
          rw [List.take_add_one, HAT.out] at hc
          rcases List.mem_append.1 hc with hc | hc
          · exact HA.out c hc
          · simp at hc; rw [hc]; exact hp
        have hcl := fun w => alC_any s[k] w
        rw [hp] at hcl
        have HC := Lib.hid hcl
        clear hcl hp hat HE
        go_wp2_with (go_at_call 48; refine (HC.out _).mono ?_; rintro e w' ⟨rfl, rfl⟩)
        go_round
        case rel => exact ⟨k + 1, by omega, by go_num, HA2⟩
        case measure => simp [intOf]; omega
      | false =>
        have hcl := fun w => alC_any s[k] w
        rw [hp] at hcl
        have HC := Lib.hid hcl
        obtain ⟨x1, x2⟩ := HE.out k (fun c hc => by rw [HAT.out] at hc; cases hc; exact hp) HA.out hk
        clear hcl hp hat HE
        go_wp2_with (first | (go_at_call 48; refine (HC.out _).mono ?_; rintro e w' ⟨rfl, rfl⟩))
        go_ret
        exact ⟨rfl, HS.out.put (by have := HB.out.set_ 0 (.string (stB (l.dropWhile isAl))); simpa using this) ((Keeps.refl w [rb]).setCell (.inl (by simp)) _) (Nat.le_trans (List.dropWhile_sublist _).length_le HS.out.few)⟩
    · obtain rfl : k = s.size := by omega
      obtain ⟨x1, x2⟩ := HE.out s.size (fun c hc => by have := (List.getElem?_eq_some_iff.1 hc).1; exact absurd this (Nat.lt_irrefl _)) HA.out hk
      have HE2 : Hid (stB (l.dropWhile isAl) = ByteArray.empty) := by show _ = _; rw [← x2]; simp
      clear HE x2
      go_wp2_with fail
      go_ret
      exact ⟨rfl, HS.out.put (by have := HB.out.set_ 0 (.string ByteArray.empty); rw [HE2.out]; simpa using this) ((Keeps.refl w [rb]).setCell (.inl (by simp)) _) (Nat.le_trans (List.dropWhile_sublist _).length_le HS.out.few)⟩
end Go.Proofs.YtjbomjnkjcafcaaDoor
