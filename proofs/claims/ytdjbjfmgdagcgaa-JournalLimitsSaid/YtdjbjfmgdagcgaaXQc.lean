/- Frames: what Frame and Unframe do, in the program and in the reference. -/
import Derived.Test.YtdjbjfmgdagcgaaXQb
namespace Go.Proofs.Ytdjbjfmgdagcgaa
open Go.Fw Go.Crc
set_option maxRecDepth 100000
set_option linter.unusedVariables false
set_option linter.unusedSimpArgs false
theorem putS_len (s : List UInt8) (n k : Int) : (putS s n k).length ≤ s.length + 8 := by
  unfold putS
  split
  · simp; omega
  · omega
theorem putS_in (s : List UInt8) (n : Int) (k : Nat) (hk : 1 ≤ k ∧ k ≤ 8) : putS s n k = s ++ (List.range k).map (putB n) := by
  unfold putS
  rw [if_pos (by omega)]
  simp
def frameS (p : List UInt8) : List UInt8 :=
  if 8392 < p.length then [] else putS (putS [] p.length 4 ++ p) (bv (crc (putS [] p.length 4 ++ p))) 4
theorem putS4_len (s : List UInt8) (n : Int) : (putS s n 4).length = s.length + 4 := by
  rw [show (4 : Int) = ((4 : Nat) : Int) from rfl, putS_in s n 4 (by omega)]; simp
theorem wrap64_bv (x : BitVec 32) : IntKind.i64.wrap (bv x) = bv x := by have := bv_lt x; exact wi (by omega)
theorem get_codecFrame (p : List UInt8) (hp : p.length ≤ 140737488351232) {Q : List D → Prop} (h : Q [.str (frameS p)]) : Gt 34 [.str p] Q := by
  refine get rfl ?_
  unfold frameS at h
  by_cases h1 : 8392 < p.length
  · rw [if_pos h1] at h
    have : (8392 : Int) < p.length := by omega
    simpa [t34, this] using h
  · rw [if_neg h1] at h
    have h1' : ¬ (8392 : Int) < p.length := by omega
    have hl := putS4_len [] (p.length : Int)
    simp only [List.length_nil, Nat.zero_add] at hl
    simp [t34, h1']
    refine get_put [] _ _ (by simp) ⟨rfl, ?_⟩
    simp [hl]
    refine ⟨by rw [wi (by omega)]; omega, by omega, get_codecSum _ (by simp [hl]; omega) ⟨rfl, ?_⟩⟩
    simp [wrap64_bv]
    exact get_put _ _ _ (by simp [hl]; omega) ⟨rfl, h⟩
theorem get_refFrame (p : List UInt8) (hp : p.length ≤ 140737488351232) {Q : List D → Prop} (h : Q [.str (frameS p)]) : Gt 28 [.str p] Q := by
  refine get rfl ?_
  unfold frameS at h
  by_cases h1 : 8392 < p.length
  · rw [if_pos h1] at h
    have : (8392 : Int) < p.length := by omega
    simpa [t28, this] using h
  · rw [if_neg h1] at h
    have h1' : ¬ (8392 : Int) < p.length := by omega
    have hl := putS4_len [] (p.length : Int)
    simp only [List.length_nil, Nat.zero_add] at hl
    simp [t28, h1']
    refine get_refPut [] _ _ (by simp) ⟨rfl, ?_⟩
    simp [hl]
    refine ⟨by rw [wi (by omega)]; omega, by omega, get_refSum _ (by simp [hl]; omega) ⟨rfl, ?_⟩⟩
    simp [wrap64_bv]
    exact get_refPut _ _ _ (by simp [hl]; omega) ⟨rfl, h⟩
def bad (e : Int) : List D := [.str [], .int 0, .int e]
/-- What bytes mean as a frame, from a place on. -/
def unframeN (s : List UInt8) (a : Nat) : List D :=
  if s.length < a + 4 then bad 5
  else if 8392 < num ((s.drop a).take 4) then bad 2
  else if s.length < a + num ((s.drop a).take 4) + 8 then bad 5
  else if num ((s.drop (a + 4 + num ((s.drop a).take 4))).take 4) ≠ (crc ((s.drop a).take (4 + num ((s.drop a).take 4)))).toNat then bad 3
  else [.str ((s.drop (a + 4)).take (num ((s.drop a).take 4))), .int ((a + 8 + num ((s.drop a).take 4) : Nat) : Int), .int 0]
def unframeS (s : List UInt8) (a : Int) : List D := if a < 0 ∨ s.length < a then bad 1 else unframeN s a.toNat
theorem num4 (s : List UInt8) : num (s.take 4) < 4294967296 := by
  have := num_lt (s.take 4)
  have hl : (s.take 4).length ≤ 4 := by simp; omega
  have : 256 ^ (s.take 4).length ≤ 256 ^ 4 := Nat.pow_le_pow_right (by omega) hl
  omega
theorem get_codecUnframe (s : List UInt8) (a : Int) (hs : s.length ≤ 140737488351232) (ha : -9223372036854775808 ≤ a ∧ a < 9223372036854775808) {Q : List D → Prop} (h : Q (unframeS s a)) : Gt 31 [.str s, .int a] Q := by
  refine get rfl ?_
  unfold unframeS at h
  by_cases h1 : a < 0
  · rw [if_pos (.inl h1)] at h
    simpa [t31, h1, bad] using h
  by_cases h2 : (s.length : Int) < a
  · rw [if_pos (.inr h2)] at h
    simpa [t31, h1, h2, bad] using h
  rw [if_neg (by omega)] at h
  obtain ⟨b, rfl⟩ := Int.eq_ofNat_of_zero_le (show 0 ≤ a by omega)
  simp only [Int.toNat_natCast] at h
  simp [t31, h1, h2]
  refine get_codecGet s b 4 (by omega) (by omega) ?_
  unfold getS
  rw [if_neg (by omega)]
  unfold unframeN at h
  by_cases h3 : s.length < b + 4
  · rw [if_pos h3] at h
    rw [if_pos (by omega)]
    simpa [bad] using h
  rw [if_neg h3] at h
  rw [if_neg (by omega)]
  have hn := num4 (s.drop b)
  simp only [Int.toNat_natCast]
  have ew : ((4 : Int).toNat) = 4 := rfl
  rw [ew]
  generalize hN : num ((s.drop b).take 4) = n at h hn
  have e1 : IntKind.i64.wrap (n : Int) = n := wi (by omega)
  simp only [e1]
  by_cases h4 : 8392 < n
  · rw [if_pos h4] at h
    have : (8392 : Int) < n := by omega
    simpa [this, bad] using h
  rw [if_neg h4] at h
  have h4' : ¬ (8392 : Int) < n := by omega
  have e2 : IntKind.i64.wrap ((b : Int) + 4) = b + 4 := wi (by omega)
  have e3 : IntKind.i64.wrap ((b : Int) + 4 + n) = b + 4 + n := wi (by omega)
  simp [h4', e2, e3]
  refine get_codecGet s (b + 4 + n) 4 (by omega) (by omega) ?_
  unfold getS
  rw [if_neg (by omega)]
  by_cases h5 : s.length < b + n + 8
  · rw [if_pos h5] at h
    rw [if_pos (by omega)]
    simpa [bad] using h
  rw [if_neg h5] at h
  rw [if_neg (by omega)]
  have e4 : ((b : Int) + 4 + n).toNat = b + 4 + n := by omega
  rw [e4, ew]
  have hm := num4 (s.drop (b + 4 + n))
  generalize hM : num ((s.drop (b + 4 + n)).take 4) = q at h hm
  have e5 : IntKind.i64.wrap (q : Int) = q := wi (by omega)
  simp [e4]
  refine ⟨by omega, by omega, by omega, ?_⟩
  have e6 : (s.take (b + 4 + n)).drop b = (s.drop b).take (4 + n) := by
    rw [List.drop_take]; congr 1; omega
  rw [e6]
  refine get_codecSum _ (by simp; omega) ⟨rfl, ?_⟩
  simp [wrap64_bv, e5]
  have e7 : ((q : Int) = bv (crc ((s.drop b).take (4 + n)))) ↔ q = (crc ((s.drop b).take (4 + n))).toNat := by unfold bv; omega
  have e8 : ((b : Int) + 4).toNat = b + 4 := by omega
  have e9 : (s.take (b + 4 + n)).drop (b + 4) = (s.drop (b + 4)).take n := by
    rw [List.drop_take]; congr 1; omega
  have e10 : IntKind.i64.wrap ((b : Int) + 4 + n + 4) = ((b + 8 + n : Nat) : Int) := by rw [wi (by omega)]; omega
  rw [e8, e9, e10]
  by_cases h6 : q = (crc ((s.drop b).take (4 + n))).toNat
  · rw [if_pos (e7.2 h6)]
    rw [if_neg (by simpa using h6)] at h
    exact ⟨by omega, by omega, by omega, by omega, h⟩
  · rw [if_neg (fun h' => h6 (e7.1 h'))]
    rw [if_pos h6] at h
    exact h
theorem get_refUnframe (s : List UInt8) (a : Int) (hs : s.length ≤ 140737488351232) (ha : -9223372036854775808 ≤ a ∧ a < 9223372036854775808) {Q : List D → Prop} (h : Q (unframeS s a)) : Gt 32 [.str s, .int a] Q := by
  refine get rfl ?_
  unfold unframeS at h
  by_cases h1 : a < 0
  · rw [if_pos (.inl h1)] at h
    simpa [t32, h1, bad] using h
  by_cases h2 : (s.length : Int) < a
  · rw [if_pos (.inr h2)] at h
    simpa [t32, h1, h2, bad] using h
  rw [if_neg (by omega)] at h
  obtain ⟨b, rfl⟩ := Int.eq_ofNat_of_zero_le (show 0 ≤ a by omega)
  simp only [Int.toNat_natCast] at h
  simp [t32, h1, h2]
  refine get_refGet s b 4 (by omega) (by omega) ?_
  unfold getS
  rw [if_neg (by omega)]
  unfold unframeN at h
  by_cases h3 : s.length < b + 4
  · rw [if_pos h3] at h
    rw [if_pos (by omega)]
    simpa [bad] using h
  rw [if_neg h3] at h
  rw [if_neg (by omega)]
  have hn := num4 (s.drop b)
  simp only [Int.toNat_natCast]
  have ew : ((4 : Int).toNat) = 4 := rfl
  rw [ew]
  generalize hN : num ((s.drop b).take 4) = n at h hn
  have e1 : IntKind.i64.wrap (n : Int) = n := wi (by omega)
  simp only [e1]
  by_cases h4 : 8392 < n
  · rw [if_pos h4] at h
    have : (8392 : Int) < n := by omega
    simpa [this, bad] using h
  rw [if_neg h4] at h
  have h4' : ¬ (8392 : Int) < n := by omega
  have e2 : IntKind.i64.wrap ((b : Int) + 4) = b + 4 := wi (by omega)
  have e3 : IntKind.i64.wrap ((b : Int) + 4 + n) = b + 4 + n := wi (by omega)
  have e11 : IntKind.i64.wrap ((s.length : Int) - b) = s.length - b := wi (by omega)
  have e12 : IntKind.i64.wrap ((n : Int) + 8) = n + 8 := wi (by omega)
  by_cases h5 : s.length < b + n + 8
  · rw [if_pos h5] at h
    have h5' : (s.length : Int) - b < n + 8 := by omega
    simpa [h4', e2, e3, e11, e12, h5', bad] using h
  rw [if_neg h5] at h
  have h5' : ¬ (s.length : Int) - b < n + 8 := by omega
  simp [h4', e2, e3, e11, e12, h5']
  refine get_refGet s (b + 4 + n) 4 (by omega) (by omega) ?_
  unfold getS
  rw [if_neg (by omega)]
  rw [if_neg (by omega)]
  have e4 : ((b : Int) + 4 + n).toNat = b + 4 + n := by omega
  rw [e4, ew]
  have hm := num4 (s.drop (b + 4 + n))
  generalize hM : num ((s.drop (b + 4 + n)).take 4) = q at h hm
  have e5 : IntKind.i64.wrap (q : Int) = q := wi (by omega)
  simp [e4]
  refine ⟨by omega, by omega, by omega, ?_⟩
  have e6 : (s.take (b + 4 + n)).drop b = (s.drop b).take (4 + n) := by
    rw [List.drop_take]; congr 1; omega
  rw [e6]
  refine get_refSum _ (by simp; omega) ⟨rfl, ?_⟩
  have e13 : IntKind.u32.wrap (q : Int) = q := by rw [wu32]; omega
  simp [e13, e5]
  have e7 : ((q : Int) = bv (crc ((s.drop b).take (4 + n)))) ↔ q = (crc ((s.drop b).take (4 + n))).toNat := by unfold bv; omega
  have e8 : ((b : Int) + 4).toNat = b + 4 := by omega
  have e9 : (s.take (b + 4 + n)).drop (b + 4) = (s.drop (b + 4)).take n := by
    rw [List.drop_take]; congr 1; omega
  have e10 : IntKind.i64.wrap ((b : Int) + 8 + n) = ((b + 8 + n : Nat) : Int) := by rw [wi (by omega)]; omega
  have e14 : IntKind.i64.wrap ((b : Int) + 8) = b + 8 := wi (by omega)
  rw [e8, e9, e14, e10]
  by_cases h6 : q = (crc ((s.drop b).take (4 + n))).toNat
  · rw [if_pos (e7.2 h6)]
    rw [if_neg (by simpa using h6)] at h
    exact ⟨by omega, by omega, by omega, by omega, h⟩
  · rw [if_neg (fun h' => h6 (e7.1 h'))]
    rw [if_pos h6] at h
    exact h
end Go.Proofs.Ytdjbjfmgdagcgaa
