/- The checksum, in plain Lean: bit by bit, by half bytes, and what it notices. -/
namespace Go.Crc
def poly : BitVec 32 := 0x82F63B78#32
def st (x : BitVec 32) : BitVec 32 := (x >>> 1) ^^^ (if x.getLsbD 0 then poly else 0#32)
def stN : Nat → BitVec 32 → BitVec 32
  | 0, x => x
  | n + 1, x => stN n (st x)
theorem stN_add (m n : Nat) (x : BitVec 32) : stN (m + n) x = stN n (stN m x) := by
  induction m generalizing x with
  | zero => simp [stN]
  | succ m ih => rw [Nat.add_right_comm]; exact ih (st x)
theorem st_xor (x y : BitVec 32) : st (x ^^^ y) = st x ^^^ st y := by
  unfold st
  rw [BitVec.ushiftRight_xor_distrib, BitVec.getLsbD_xor]
  have h1 : ∀ a b c d : BitVec 32, a ^^^ b ^^^ (c ^^^ d) = a ^^^ c ^^^ (b ^^^ d) := fun a b c d => by ac_rfl
  cases x.getLsbD 0 <;> cases y.getLsbD 0 <;> simp
  · ac_rfl
  · ac_rfl
  · rw [h1]; simp
theorem stN_xor (n : Nat) (x y : BitVec 32) : stN n (x ^^^ y) = stN n x ^^^ stN n y := by
  induction n generalizing x y with
  | zero => rfl
  | succ n ih => simp only [stN, st_xor, ih]
theorem st_zero : st 0#32 = 0#32 := by decide
theorem stN_zero (n : Nat) : stN n 0#32 = 0#32 := by
  induction n with
  | zero => rfl
  | succ n ih => simp only [stN, st_zero, ih]
theorem st_even (x : BitVec 32) (h : x.getLsbD 0 = false) : st x = x >>> 1 := by unfold st; rw [h]; simp
theorem stN_high (n : Nat) (x : BitVec 32) (h : ∀ i, i < n → x.getLsbD i = false) : stN n x = x >>> n := by
  induction n generalizing x with
  | zero => simp [stN]
  | succ n ih =>
    simp only [stN]
    rw [st_even x (h 0 (by omega)), ih]
    · rw [← BitVec.shiftRight_add, Nat.add_comm]
    · intro i hi
      rw [BitVec.getLsbD_ushiftRight]
      exact h (1 + i) (by omega)
theorem split_low (n : Nat) (x : BitVec 32) (m : BitVec 32) (hm : ∀ i, i < 32 → m.getLsbD i = decide (i < n)) : stN n x = (x >>> n) ^^^ stN n (x &&& m) := by
  have e : x = (x &&& ~~~m) ^^^ (x &&& m) := by
    apply BitVec.eq_of_getLsbD_eq
    intro i hi
    simp only [BitVec.getLsbD_xor, BitVec.getLsbD_and, BitVec.getLsbD_not, hm i hi, hi, decide_true, Bool.true_and]
    cases x.getLsbD i <;> cases decide (i < n) <;> rfl
  conv => lhs; rw [e, stN_xor]
  congr 1
  rw [stN_high]
  · apply BitVec.eq_of_getLsbD_eq
    intro i hi
    rw [BitVec.getLsbD_ushiftRight, BitVec.getLsbD_ushiftRight, BitVec.getLsbD_and, BitVec.getLsbD_not]
    by_cases h : n + i < 32
    · rw [hm _ h]
      have : ¬ n + i < n := by omega
      simp [h, this]
    · have : x.getLsbD (n + i) = false := BitVec.getLsbD_of_ge _ _ (by omega)
      simp [this]
  · intro i hi
    by_cases h : i < 32
    · rw [BitVec.getLsbD_and, BitVec.getLsbD_not, hm i h]
      simp [hi]
    · exact BitVec.getLsbD_of_ge _ _ (by omega)
theorem st4 (x : BitVec 32) : stN 4 x = (x >>> 4) ^^^ stN 4 (x &&& 15#32) := split_low 4 x _ (by decide)
theorem st8 (x : BitVec 32) : stN 8 x = (x >>> 8) ^^^ stN 8 (x &&& 255#32) := split_low 8 x _ (by decide)
theorem st_inj0 (x : BitVec 32) (h : st x = 0#32) : x = 0#32 := by
  cases hb : x.getLsbD 0 with
  | true =>
    exfalso
    have := congrArg (fun y : BitVec 32 => y.getLsbD 31) h
    simp only [st, hb, if_true, BitVec.getLsbD_xor, BitVec.getLsbD_ushiftRight] at this
    have h1 : x.getLsbD (1 + 31) = false := BitVec.getLsbD_of_ge _ _ (by omega)
    rw [h1] at this
    revert this
    decide
  | false =>
    rw [st_even x hb] at h
    apply BitVec.eq_of_getLsbD_eq
    intro i hi
    rw [BitVec.getLsbD_zero]
    cases i with
    | zero => exact hb
    | succ i =>
      have := congrArg (fun y : BitVec 32 => y.getLsbD i) h
      simp only [BitVec.getLsbD_ushiftRight, BitVec.getLsbD_zero] at this
      rw [Nat.add_comm]
      exact this
theorem stN_inj0 (n : Nat) (x : BitVec 32) (h : stN n x = 0#32) : x = 0#32 := by
  induction n generalizing x with
  | zero => exact h
  | succ n ih => exact st_inj0 x (ih _ h)
theorem xor_zero_iff (x y : BitVec 32) : x ^^^ y = 0#32 ↔ x = y := by
  constructor
  · intro h
    have : x ^^^ y ^^^ y = 0#32 ^^^ y := by rw [h]
    simpa [BitVec.xor_assoc] using this
  · rintro rfl; simp
theorem stN_inj (n : Nat) (x y : BitVec 32) (h : stN n x = stN n y) : x = y := by
  rw [← xor_zero_iff] at h ⊢
  rw [← stN_xor] at h
  exact stN_inj0 n _ h
def w8 (b : UInt8) : BitVec 32 := BitVec.ofNat 32 b.toNat
def by8 (r : BitVec 32) (b : UInt8) : BitVec 32 := stN 8 (r ^^^ w8 b)
def from_ (r : BitVec 32) (l : List UInt8) : BitVec 32 := l.foldl by8 r
def crc (l : List UInt8) : BitVec 32 := ~~~ from_ 0xFFFFFFFF#32 l
theorem from_append (r : BitVec 32) (l m : List UInt8) : from_ r (l ++ m) = from_ (from_ r l) m := List.foldl_append
theorem w8_inj {a b : UInt8} (h : w8 a = w8 b) : a = b := by
  have := congrArg BitVec.toNat h
  simp only [w8, BitVec.toNat_ofNat] at this
  rw [Nat.mod_eq_of_lt (by have := a.toNat_lt; omega), Nat.mod_eq_of_lt (by have := b.toNat_lt; omega)] at this
  exact UInt8.toNat.inj this
theorem from_inj (l : List UInt8) (r q : BitVec 32) (h : from_ r l = from_ q l) : r = q := by
  induction l generalizing r q with
  | nil => exact h
  | cons b l ih =>
    have h1 := stN_inj 8 _ _ (ih _ _ h)
    rw [← xor_zero_iff] at h1 ⊢
    have e : r ^^^ w8 b ^^^ (q ^^^ w8 b) = r ^^^ q := by
      have : r ^^^ w8 b ^^^ (q ^^^ w8 b) = r ^^^ q ^^^ (w8 b ^^^ w8 b) := by ac_rfl
      rw [this]; simp
    rw [e] at h1
    exact h1
/-- How two states part, after some bytes. -/
def dif (d : BitVec 32) (l m : List UInt8) : BitVec 32 := match l, m with
  | a :: l, b :: m => dif (stN 8 (d ^^^ (w8 a ^^^ w8 b))) l m
  | _, _ => d
theorem from_dif : ∀ (l m : List UInt8) (r q : BitVec 32), l.length = m.length → from_ r l ^^^ from_ q m = dif (r ^^^ q) l m
  | [], [], r, q, _ => rfl
  | a :: l, b :: m, r, q, h => by
    show from_ (by8 r a) l ^^^ from_ (by8 q b) m = _
    rw [from_dif l m _ _ (by simpa using h)]
    simp only [dif, by8]
    rw [← stN_xor]
    congr 2
    ac_rfl
  | [], _ :: _, _, _, h => by simp at h
  | _ :: _, [], _, _, h => by simp at h
/-- Bytes as one word, the first one lowest. -/
def word : List UInt8 → List UInt8 → BitVec 32
  | a :: l, b :: m => (w8 a ^^^ w8 b) ^^^ (word l m <<< 8)
  | _, _ => 0#32
theorem w8_low (a b : UInt8) (i : Nat) (hi : 8 ≤ i) : (w8 a ^^^ w8 b).getLsbD i = false := by
  have h1 : ∀ c : UInt8, (w8 c).getLsbD i = false := fun c => by
    unfold w8
    rw [BitVec.getLsbD_ofNat]
    have : c.toNat.testBit i = false := Nat.testBit_lt_two_pow (Nat.lt_of_lt_of_le c.toNat_lt (Nat.pow_le_pow_right (by omega) hi))
    simp [this]
  rw [BitVec.getLsbD_xor, h1, h1]; rfl
theorem word_bits : ∀ (l m : List UInt8) (i : Nat), 8 * l.length ≤ i → (word l m).getLsbD i = false
  | [], m, i, _ => by simp [word]
  | _ :: _, [], i, _ => by simp [word]
  | a :: l, b :: m, i, h => by
    simp only [word, List.length_cons] at *
    rw [BitVec.getLsbD_xor, w8_low a b i (by omega), BitVec.getLsbD_shiftLeft]
    have := word_bits l m (i - 8) (by omega)
    simp [this]
theorem dif_word : ∀ (l m : List UInt8) (d : BitVec 32), l.length = m.length → l.length ≤ 4 → dif d l m = stN (8 * l.length) (d ^^^ word l m)
  | [], [], d, _, _ => by simp [dif, word, stN]
  | a :: l, b :: m, d, h, h4 => by
    simp only [dif, List.length_cons] at *
    rw [dif_word l m _ (by omega) (by omega)]
    rw [show 8 * (l.length + 1) = 8 + 8 * l.length by omega, stN_add]
    congr 1
    simp only [word]
    have e : d ^^^ (w8 a ^^^ w8 b ^^^ word l m <<< 8) = (d ^^^ (w8 a ^^^ w8 b)) ^^^ (word l m <<< 8) := by ac_rfl
    rw [e, stN_xor 8 (d ^^^ (w8 a ^^^ w8 b)) (word l m <<< 8)]
    refine congrArg (stN 8 (d ^^^ (w8 a ^^^ w8 b)) ^^^ ·) ?_
    rw [stN_high]
    · apply BitVec.eq_of_getLsbD_eq
      intro i hi
      rw [BitVec.getLsbD_ushiftRight, BitVec.getLsbD_shiftLeft]
      by_cases h8 : 8 + i < 32
      · simp [h8]
      · have := word_bits l m i (by omega)
        simp [this]
    · intro i hi
      rw [BitVec.getLsbD_shiftLeft]
      simp [hi]
  | [], _ :: _, _, h, _ => by simp at h
  | _ :: _, [], _, h, _ => by simp at h
theorem word_zero : ∀ (l m : List UInt8), l.length = m.length → l.length ≤ 4 → word l m = 0#32 → l = m
  | [], [], _, _, _ => rfl
  | a :: l, b :: m, h, h4, hz => by
    simp only [word, List.length_cons] at *
    have hlow : w8 a ^^^ w8 b = 0#32 := by
      apply BitVec.eq_of_getLsbD_eq
      intro i hi
      by_cases h8 : i < 8
      · have := congrArg (fun y : BitVec 32 => y.getLsbD i) hz
        simp only [BitVec.getLsbD_xor, BitVec.getLsbD_shiftLeft, h8, decide_true, Bool.not_true, Bool.and_false, Bool.false_and, Bool.xor_false] at this
        rw [BitVec.getLsbD_xor]
        exact this
      · rw [w8_low a b i (by omega)]; simp
    have hab : a = b := w8_inj ((xor_zero_iff _ _).1 hlow)
    subst hab
    have hw : word l m = 0#32 := by
      apply BitVec.eq_of_getLsbD_eq
      intro i hi
      rw [BitVec.getLsbD_zero]
      by_cases h8 : 8 + i < 32
      · have := congrArg (fun y : BitVec 32 => y.getLsbD (8 + i)) hz
        rw [hlow] at this
        simp only [BitVec.getLsbD_xor, BitVec.getLsbD_zero, BitVec.getLsbD_shiftLeft, h8] at this
        simpa using this
      · exact word_bits l m i (by omega)
    rw [word_zero l m (by omega) (by omega) hw]
  | [], _ :: _, h, _, _ => by simp at h
  | _ :: _, [], h, _, _ => by simp at h
/-- Two texts that part in at most four bytes, one behind the other, have one checksum only if they are one. -/
theorem crc_burst (p s l m : List UInt8) (h : l.length = m.length) (h4 : l.length ≤ 4) (hc : crc (p ++ l ++ s) = crc (p ++ m ++ s)) : l = m := by
  have h1 : from_ 0xFFFFFFFF#32 (p ++ l ++ s) = from_ 0xFFFFFFFF#32 (p ++ m ++ s) := by
    have := congrArg (fun y : BitVec 32 => ~~~ y) hc
    simpa [crc] using this
  rw [from_append, from_append, from_append, from_append] at h1
  have h2 := from_inj s _ _ h1
  rw [← xor_zero_iff, from_dif l m _ _ h, dif_word l m _ h h4] at h2
  have h3 := stN_inj0 _ _ h2
  simp only [BitVec.xor_self, BitVec.zero_xor] at h3
  exact word_zero l m h h4 h3
end Go.Crc
