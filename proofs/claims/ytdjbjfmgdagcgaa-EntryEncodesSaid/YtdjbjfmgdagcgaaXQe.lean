/- The statement CodecBack over trees. -/
import Derived.Test.YtdjbjfmgdagcgaaXQd
namespace Go.Proofs.Ytdjbjfmgdagcgaa
open Go.Fw Go.Crc
set_option maxRecDepth 100000
set_option linter.unusedVariables false
set_option linter.unusedSimpArgs false
theorem putB_nat (n : Int) (i : Nat) : (putB n i).toNat = (IntKind.u64.wrap n).toNat / 256 ^ i % 256 := by
  unfold putB
  rw [UInt8.toNat_ofNat', show (256 : Nat) ^ i = 2 ^ (8 * i) by rw [Nat.pow_mul]]
theorem num_put (n : Int) : ∀ k : Nat, num ((List.range k).map (putB n)) = (IntKind.u64.wrap n).toNat % 256 ^ k
  | 0 => by simp [num, Nat.mod_one]
  | k + 1 => by
    rw [List.range_succ, List.map_append, num_append, num_put n k]
    simp only [List.map_cons, List.map_nil, num, Nat.mul_zero, Nat.add_zero, List.length_map, List.length_range, putB_nat]
    rw [Nat.mod_pow_succ]
theorem and_mask (n : Int) (j : Nat) (hj : j < 63) : bits .and .i64 n ((2 : Int) ^ j - 1) = ((IntKind.u64.wrap n).toNat % 2 ^ j : Nat) := by
  have h1 : ((2 : Int) ^ j - 1) = ((2 ^ j - 1 : Nat) : Int) := by
    have := Nat.two_pow_pos j
    rw [Int.natCast_sub this]; simp
  have hlt : 2 ^ j < 2 ^ 63 := Nat.pow_lt_pow_right (by omega) hj
  have hpos := Nat.two_pow_pos j
  rw [h1]
  show IntKind.i64.wrap (((BitVec.ofInt 64 n &&& BitVec.ofInt 64 ((2 ^ j - 1 : Nat) : Int)).toNat : Nat) : Int) = _
  rw [BitVec.toNat_and, BitVec.ofInt_natCast, BitVec.toNat_ofNat, Nat.mod_eq_of_lt (show 2 ^ j - 1 < 2 ^ 64 by omega), Nat.and_two_pow_sub_one_eq_mod]
  have h2 : (BitVec.ofInt 64 n).toNat = (IntKind.u64.wrap n).toNat := by
    rw [wu64, BitVec.toNat_ofInt]; rfl
  rw [h2]
  have h3 := Nat.mod_lt (IntKind.u64.wrap n).toNat hpos
  exact wi (by omega)
theorem law_back (xs : List D) (h : DTs K [.int .i64, .int .u8, .str, .str] xs) : Gt 5 xs (· = [.bool true]) := by
  obtain ⟨_, _, rfl, h0, h⟩ := dts_cons h
  obtain ⟨_, _, rfl, h1, h⟩ := dts_cons h
  obtain ⟨_, _, rfl, h2, h⟩ := dts_cons h
  obtain ⟨_, _, rfl, h3, h⟩ := dts_cons h
  obtain rfl := dts_nil h
  obtain ⟨n, rfl, hn⟩ := dt_int h0
  obtain ⟨z, rfl, hz⟩ := dt_int h1
  obtain ⟨b, rfl, hb⟩ := dt_str h2
  obtain ⟨e, rfl, he⟩ := dt_str h3
  have hn := i64b hn
  have hz := u8b hz
  refine get rfl ?_
  simp only [t5, wp_call]
  refine get_awake1 ⟨rfl, ?_⟩
  have ez : IntKind.i64.wrap z = z := wi (by omega)
  have hm := Int.tmod_eq_emod_of_nonneg hz.1 (b := 8)
  obtain ⟨k, hk, hk1, hk8⟩ : ∃ k : Nat, 1 + z.tmod 8 = (k : Int) ∧ 1 ≤ k ∧ k ≤ 8 := ⟨(1 + z.tmod 8).toNat, by omega, by omega, by omega⟩
  have ek : IntKind.i64.wrap (1 + z.tmod 8) = k := by rw [hk]; exact wi (by omega)
  by_cases hl : (300 : Int) < b.length
  · simp [hl]
  by_cases hl2 : (300 : Int) < e.length
  · simp [hl, hl2]
  have e8 : IntKind.i64.wrap (8 * (k : Int)) = 8 * k := wi (by omega)
  have eu8 : IntKind.u64.wrap (8 * (k : Int)) = 8 * k := by rw [wu64]; omega
  have hlen : (putS b n k).length = b.length + k := by rw [putS_in b n k (by omega)]; simp
  have hget : getS (putS b n k ++ e) b.length k = [.int (IntKind.i64.wrap ((IntKind.u64.wrap n).toNat % 256 ^ k : Nat)), .int 0] := by
    unfold getS
    rw [if_neg (by omega), if_neg (by simp [hlen]; omega)]
    have e1 : (putS b n k ++ e).drop ((b.length : Int)).toNat = (List.range k).map (putB n) ++ e := by
      rw [putS_in b n k (by omega), List.append_assoc]
      simp
    rw [e1]
    have e2 : ((List.range k).map (putB n) ++ e).take ((k : Int)).toNat = (List.range k).map (putB n) := by
      have : ((k : Int)).toNat = ((List.range k).map (putB n)).length := by simp
      rw [this, List.take_left]
    rw [e2, num_put]
  have e10 : IntKind.i64.wrap ((b.length : Int) + k) = b.length + k := wi (by omega)
  generalize hv : (IntKind.u64.wrap n).toNat % 256 ^ k = v at hget
  by_cases h7 : k < 8
  · have h7' : (k : Int) < 8 := by omega
    simp [hl, hl2, ez, ek, h7', e8, eu8]
    refine ⟨by omega, get_put b n k (by omega) ⟨rfl, ?_⟩⟩
    simp [hlen, ez, ek]
    refine ⟨by rw [wi (by omega)]; omega, by omega, by omega, get_codecGet _ _ _ (by simp [hlen]; omega) (by omega) ?_⟩
    rw [hget]
    have e3 : Nat.min (8 * (k : Int)).toNat IntKind.i64.bits = 8 * k := by
      have : (8 * (k : Int)).toNat = 8 * k := by omega
      rw [this]; exact minr (by show 8 * k ≤ 64; omega)
    have hp : (2 : Int) ^ (8 * k) < 2 ^ 63 := by
      have := Nat.pow_lt_pow_right (a := 2) (by omega) (show 8 * k < 63 by omega)
      exact_mod_cast this
    have hp0 : (1 : Int) ≤ 2 ^ (8 * k) := by
      have := Nat.two_pow_pos (8 * k)
      exact_mod_cast this
    have e4 : IntKind.i64.wrap (2 ^ (8 * k)) = 2 ^ (8 * k) := wi (by omega)
    have e5 : IntKind.i64.wrap ((2 : Int) ^ (8 * k) - 1) = 2 ^ (8 * k) - 1 := wi (by omega)
    simp [ez, ek, e8, eu8, hlen, e10, e3, e4, e5]
    rw [and_mask n (8 * k) (by omega)]
    have hv2 : (IntKind.u64.wrap n).toNat % 2 ^ (8 * k) = v := by rw [← hv, show (256 : Nat) ^ k = 2 ^ (8 * k) by rw [Nat.pow_mul]]
    rw [hv2]
    refine wi ?_
    have := Nat.mod_lt (IntKind.u64.wrap n).toNat (Nat.two_pow_pos (8 * k))
    have h63 := Nat.pow_lt_pow_right (a := 2) (by omega) (show 8 * k < 63 by omega)
    omega
  · have hk88 : k = 8 := by omega
    subst hk88
    simp [hl, hl2, ez, ek]
    refine get_put b n _ (by omega) ⟨rfl, ?_⟩
    have hlen' : (putS b n 8).length = b.length + 8 := hlen
    have hget' : getS (putS b n 8 ++ e) b.length 8 = [.int (IntKind.i64.wrap v), .int 0] := hget
    simp [hlen', ez, ek]
    refine ⟨by rw [wi (by omega)]; omega, by omega, by omega, get_codecGet _ _ _ (by simp [hlen']; omega) (by omega) ?_⟩
    rw [hget']
    have e10' : IntKind.i64.wrap ((b.length : Int) + 8) = b.length + 8 := e10
    simp [ez, ek, hlen', e10']
    have hv2 : (IntKind.u64.wrap n).toNat = v := by rw [← hv, wu64]; omega
    rw [← hv2, wu64, IntKind.wrap_i64]
    omega
end Go.Proofs.Ytdjbjfmgdagcgaa
