/- The plain law of the sum: registers of 32 bits, no program in sight. -/
namespace Go.Proofs.Ytdcjiohbnnipdaa.Crc

/-- One bit falls out of the register. -/
def bit1 (r : BitVec 32) : BitVec 32 := (r >>> 1) ^^^ (if r.getLsbD 0 then 0xEDB88320#32 else 0#32)
def bit8 (r : BitVec 32) : BitVec 32 := bit1 (bit1 (bit1 (bit1 (bit1 (bit1 (bit1 (bit1 r)))))))
/-- One byte goes in. -/
def byte (r : BitVec 32) (n : Int) : BitVec 32 := bit8 (r ^^^ BitVec.ofInt 32 n)
def run (r : BitVec 32) (l : List Int) : BitVec 32 := l.foldl byte r
/-- What 'Go' answers. -/
def go (s : BitVec 32) (l : List Int) : BitVec 32 := ~~~ (run (~~~ s) l)

theorem run_append (r : BitVec 32) (a b : List Int) : run r (a ++ b) = run (run r a) b := by simp [run]
theorem go_append (s : BitVec 32) (a b : List Int) : go s (a ++ b) = go (go s a) b := by simp [go, run_append]
theorem go_nil (s : BitVec 32) : go s [] = s := by simp [go, run]
theorem run_snoc (r : BitVec 32) (a : List Int) (x : Int) : run r (a ++ [x]) = byte (run r a) x := by simp [run]

theorem bit1_xor (a b : BitVec 32) : bit1 (a ^^^ b) = bit1 a ^^^ bit1 b := by
  unfold bit1
  apply BitVec.eq_of_getLsbD_eq
  intro i hi
  by_cases ha : a.getLsbD 0 <;> by_cases hb : b.getLsbD 0 <;> simp [ha, hb, hi] <;> grind
theorem bit1_zero : bit1 0#32 = 0#32 := by decide
theorem bit1_eq_zero {r : BitVec 32} (h : bit1 r = 0#32) : r = 0#32 := by
  unfold bit1 at h
  by_cases h0 : r.getLsbD 0
  · simp only [h0, if_true] at h
    have h31 := congrArg (fun x => x.getLsbD 31) h
    simp at h31
  · simp only [h0, if_false, Bool.false_eq_true] at h
    simp at h
    apply BitVec.eq_of_getLsbD_eq
    intro i hi
    rcases i with _ | i
    · simpa using h0
    · have := congrArg (fun x => x.getLsbD i) h
      simpa [Nat.add_comm] using this

/-- Bits go in one by one. -/
def feed (s : BitVec 32) (l : List Bool) : BitVec 32 := l.foldl (fun s b => bit1 (s ^^^ (if b then 1#32 else 0#32))) s
theorem feed_append (s : BitVec 32) (a b : List Bool) : feed s (a ++ b) = feed (feed s a) b := by simp [feed]
theorem feed_cons (s : BitVec 32) (b : Bool) (l : List Bool) : feed s (b :: l) = feed (bit1 (s ^^^ (if b then 1#32 else 0#32))) l := rfl
theorem feed_xor : ∀ (a b : List Bool) (s t : BitVec 32), a.length = b.length → feed s a ^^^ feed t b = feed (s ^^^ t) (List.zipWith Bool.xor a b)
  | [], [], s, t, _ => by simp [feed]
  | x :: a, y :: b, s, t, h => by
    have h' : a.length = b.length := by simpa using h
    rw [feed_cons, feed_cons, feed_xor a b _ _ h', List.zipWith_cons_cons, feed_cons, ← bit1_xor]
    congr 2
    cases x <;> cases y <;> simp <;> (try (apply BitVec.eq_of_getLsbD_eq; intro i hi; simp; try grind))
theorem feed_zeros (n : Nat) : feed 0#32 (List.replicate n false) = 0#32 := by
  induction n with
  | zero => rfl
  | succ n ih => rw [List.replicate_succ, feed_cons]; simpa [bit1_zero] using ih
theorem feed_zeros_ne (n : Nat) : ∀ s : BitVec 32, s ≠ 0#32 → feed s (List.replicate n false) ≠ 0#32 := by
  induction n with
  | zero => intro s h; exact h
  | succ n ih =>
    intro s h
    rw [List.replicate_succ, feed_cons]
    refine ih _ (fun h' => h ?_)
    simpa using bit1_eq_zero h'

theorem bit1_shl (x : BitVec 32) (h : x.getLsbD 31 = false) : bit1 (x <<< 1) = x := by
  unfold bit1
  simp
  apply BitVec.eq_of_getLsbD_eq
  intro i hi
  by_cases h31 : i = 31
  · subst h31
    have h' : x[31] = false := by simpa using h
    simp [h']
  · simp [hi]; omega
/-- A word's bits, the lowest first. -/
def bitsFrom (x : BitVec 32) : Nat → List Bool
  | 0 => []
  | n + 1 => x.getLsbD 0 :: bitsFrom (x >>> 1) n
theorem split0 (x : BitVec 32) : x = (if x.getLsbD 0 then 1#32 else 0#32) ^^^ ((x >>> 1) <<< 1) := by
  apply BitVec.eq_of_getLsbD_eq
  intro i hi
  by_cases h : x.getLsbD 0
  · rcases i with _ | i
    · have h' : x[0] = true := by simpa using h
      simp [h']
    · have h' : x[0] = true := by simpa using h
      simp [h', hi, Nat.add_comm]
  · have h' : x[0] = false := by simpa using h
    rcases i with _ | i
    · simp [h']
    · simp [h', hi, Nat.add_comm]
theorem feed_word (n : Nat) : ∀ (s x : BitVec 32), feed s (bitsFrom x n) ^^^ (x >>> n) = (Nat.repeat bit1 n (s ^^^ x)) := by
  induction n with
  | zero => intro s x; simp [bitsFrom, feed, Nat.repeat]
  | succ n ih =>
    intro s x
    have e : bit1 (s ^^^ x) = bit1 (s ^^^ (if x.getLsbD 0 then 1#32 else 0#32)) ^^^ (x >>> 1) := by
      have h31 : (x >>> 1).getLsbD 31 = false := by simp
      rw [← bit1_shl (x >>> 1) h31, bit1_shl (x >>> 1) h31]
      conv => lhs; rw [split0 x, ← BitVec.xor_assoc, bit1_xor, bit1_shl _ h31]
    have hrep : ∀ (m : Nat) (y : BitVec 32), Nat.repeat bit1 (m + 1) y = Nat.repeat bit1 m (bit1 y) := by
      intro m
      induction m with
      | zero => intro y; rfl
      | succ m ihm => intro y; show bit1 (Nat.repeat bit1 (m + 1) y) = bit1 (Nat.repeat bit1 m (bit1 y)); rw [ihm]
    rw [hrep, e, ← ih, bitsFrom, feed_cons, ← BitVec.shiftRight_add, Nat.add_comm 1 n]
theorem repeat_ne (n : Nat) (x : BitVec 32) (h : x ≠ 0#32) : Nat.repeat bit1 n x ≠ 0#32 := by
  induction n with
  | zero => exact h
  | succ n ih => exact fun h' => ih (bit1_eq_zero h')

/-- 32 bits, one at least of them set, make the register another. -/
theorem burst (k m : Nat) (x : BitVec 32) (h : x ≠ 0#32) : feed 0#32 (List.replicate k false ++ (bitsFrom x 32 ++ List.replicate m false)) ≠ 0#32 := by
  rw [feed_append, feed_zeros, feed_append]
  refine feed_zeros_ne m _ ?_
  have e := feed_word 32 0#32 x
  have z : x >>> 32 = 0#32 := by
    apply BitVec.eq_of_getLsbD_eq
    intro i hi
    simp
  rw [z] at e
  simp at e
  rw [e]
  exact repeat_ne 32 x h

/-- A byte's bits. -/
def bits8 (n : Int) : List Bool := bitsFrom (BitVec.ofInt 32 n) 8
def bitsOf (l : List Int) : List Bool := l.flatMap bits8
theorem byte_feed (r : BitVec 32) (n : Int) (h0 : 0 ≤ n) (h1 : n < 256) : byte r n = feed r (bits8 n) := by
  have e := feed_word 8 r (BitVec.ofInt 32 n)
  have z : (BitVec.ofInt 32 n) >>> 8 = 0#32 := by
    apply BitVec.eq_of_toNat_eq
    obtain ⟨m, rfl⟩ := Int.eq_ofNat_of_zero_le h0
    rw [BitVec.ofInt_natCast]
    simp only [BitVec.toNat_ushiftRight, BitVec.toNat_ofNat, Nat.shiftRight_eq_div_pow]
    omega
  rw [z] at e
  simp only [BitVec.xor_zero] at e
  unfold bits8
  rw [e]
  rfl
theorem run_feed (l : List Int) (h : ∀ n ∈ l, 0 ≤ n ∧ n < 256) : ∀ r, run r l = feed r (bitsOf l) := by
  induction l with
  | nil => intro r; rfl
  | cons x l ih =>
    intro r
    have hx := h x (by simp)
    show run (byte r x) l = feed r (bits8 x ++ bitsOf l)
    rw [feed_append, ← byte_feed r x hx.1 hx.2, ih (fun n hn => h n (by simp [hn]))]
theorem bitsFrom_length (n : Nat) : ∀ x, (bitsFrom x n).length = n := by
  induction n with
  | zero => intro x; rfl
  | succ n ih => intro x; simp [bitsFrom, ih]
theorem bitsFrom_get (n : Nat) : ∀ (x : BitVec 32) (i : Nat), i < n → (bitsFrom x n)[i]? = some (x.getLsbD i) := by
  induction n with
  | zero => intro x i h; omega
  | succ n ih =>
    intro x i h
    rcases i with _ | i
    · simp [bitsFrom]
    · simp only [bitsFrom, List.getElem?_cons_succ]
      rw [ih _ _ (by omega)]
      simp [Nat.add_comm]
theorem bitsOf_length (l : List Int) : (bitsOf l).length = 8 * l.length := by
  induction l with
  | nil => rfl
  | cons x l ih => show (bits8 x ++ bitsOf l).length = _; rw [List.length_append, ih, bits8, bitsFrom_length, List.length_cons]; omega
theorem bitsOf_get (l : List Int) : ∀ t, t < 8 * l.length → (bitsOf l)[t]? = some ((BitVec.ofInt 32 (l.getD (t / 8) 0)).getLsbD (t % 8)) := by
  induction l with
  | nil => intro t h; simp at h
  | cons x l ih =>
    intro t h
    show (bits8 x ++ bitsOf l)[t]? = _
    have hl8 : (bits8 x).length = 8 := bitsFrom_length 8 _
    by_cases ht : t < 8
    · rw [List.getElem?_append_left (by omega), bits8, bitsFrom_get 8 _ _ ht]
      have e1 : t / 8 = 0 := by omega
      have e2 : t % 8 = t := by omega
      rw [e1, e2]
      rfl
    · rw [List.getElem?_append_right (by omega), hl8, ih (t - 8) (by simp at h; omega)]
      have e1 : t / 8 = (t - 8) / 8 + 1 := by omega
      have e2 : t % 8 = (t - 8) % 8 := by omega
      rw [e1, e2]
      rfl

/-- Bytes of which some bits are turned, at least one, all within 32, have another register. -/
theorem turned (a b : List Int) (ha : ∀ n ∈ a, 0 ≤ n ∧ n < 256) (hb : ∀ n ∈ b, 0 ≤ n ∧ n < 256) (hl : a.length = b.length) (k : Nat) (x : BitVec 32) (hx : x ≠ 0#32)
    (hk : k + 32 ≤ 8 * a.length)
    (hbit : ∀ t, t < 8 * a.length → (BitVec.ofInt 32 (b.getD (t / 8) 0)).getLsbD (t % 8) = ((BitVec.ofInt 32 (a.getD (t / 8) 0)).getLsbD (t % 8) ^^ (decide (k ≤ t) && x.getLsbD (t - k))))
    (r : BitVec 32) : run r a ≠ run r b := by
  intro h
  have hz : feed r (bitsOf a) ^^^ feed r (bitsOf b) = 0#32 := by
    rw [← run_feed a ha, ← run_feed b hb, h]; simp
  rw [feed_xor _ _ _ _ (by rw [bitsOf_length, bitsOf_length, hl])] at hz
  have e : List.zipWith Bool.xor (bitsOf a) (bitsOf b) = List.replicate k false ++ (bitsFrom x 32 ++ List.replicate (8 * a.length - (k + 32)) false) := by
    apply List.ext_getElem?
    intro t
    by_cases ht : t < 8 * a.length
    · rw [List.getElem?_zipWith, bitsOf_get a t ht, bitsOf_get b t (by omega), hbit t ht]
      simp only
      by_cases h1 : t < k
      · rw [List.getElem?_append_left (by simpa using h1), List.getElem?_replicate, if_pos h1]
        have : ¬ k ≤ t := by omega
        simp [this]
      · rw [List.getElem?_append_right (by simp; omega), List.length_replicate]
        have h1' : k ≤ t := by omega
        by_cases h2 : t - k < 32
        · rw [List.getElem?_append_left (by rw [bitsFrom_length]; exact h2), bitsFrom_get 32 _ _ h2]
          simp [h1']
        · rw [List.getElem?_append_right (by rw [bitsFrom_length]; omega), bitsFrom_length, List.getElem?_replicate, if_pos (by omega)]
          have : x.getLsbD (t - k) = false := BitVec.getLsbD_of_ge _ _ (by omega)
          simp [this]
    · rw [List.getElem?_eq_none (by rw [List.length_zipWith, bitsOf_length, bitsOf_length]; omega), List.getElem?_eq_none]
      simp [bitsFrom_length]; omega
  rw [e] at hz
  simp only [BitVec.xor_self] at hz
  exact burst k _ x hx hz

end Go.Proofs.Ytdcjiohbnnipdaa.Crc
