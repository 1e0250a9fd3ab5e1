/- Checksums: what Sum does, in the program (by half bytes) and in the reference (by bits). -/
import Derived.Test.YtdjbjfmgdagcgaaXQa
import Derived.Test.YtdjbjfmgdagcgaaXCrc
namespace Go.Proofs.Ytdjbjfmgdagcgaa
open Go.Fw Go.Crc
set_option maxRecDepth 100000
set_option linter.unusedVariables false
set_option linter.unusedSimpArgs false
def bv (x : BitVec 32) : Int := (x.toNat : Int)
theorem bv_lt (x : BitVec 32) : 0 ≤ bv x ∧ bv x < 4294967296 := by unfold bv; have := x.isLt; omega
theorem wrap_bv (x : BitVec 32) : IntKind.u32.wrap (bv x) = bv x := by have := bv_lt x; rw [wu32]; omega
theorem bv_ofInt (x : BitVec 32) : BitVec.ofInt 32 (bv x) = x := by unfold bv; rw [BitVec.ofInt_natCast]; simp
theorem xor_bv (x y : BitVec 32) : bits .xor .u32 (bv x) (bv y) = bv (x ^^^ y) := by
  have h : ∀ n : BitVec 32, IntKind.u32.wrap ((n.toNat : Nat) : Int) = bv n := fun n => wrap_bv n
  show IntKind.u32.wrap (((BitVec.ofInt 32 (bv x) ^^^ BitVec.ofInt 32 (bv y)).toNat : Nat) : Int) = _
  rw [bv_ofInt, bv_ofInt]
  exact h _
theorem and_bv (x y : BitVec 32) : bits .and .u32 (bv x) (bv y) = bv (x &&& y) := by
  have h : ∀ n : BitVec 32, IntKind.u32.wrap ((n.toNat : Nat) : Int) = bv n := fun n => wrap_bv n
  show IntKind.u32.wrap (((BitVec.ofInt 32 (bv x) &&& BitVec.ofInt 32 (bv y)).toNat : Nat) : Int) = _
  rw [bv_ofInt, bv_ofInt]
  exact h _
theorem shr_bv (x : BitVec 32) (n : Nat) (hn : n ≤ 32) : (bv x).fdiv (2 ^ Nat.min n IntKind.u32.bits) = bv (x >>> n) := by
  rw [minr (by exact hn)]
  unfold bv
  rw [Int.fdiv_eq_ediv_of_nonneg _ (by exact_mod_cast Nat.zero_le _), BitVec.toNat_ushiftRight, Nat.shiftRight_eq_div_pow]
  simp
theorem byte_bv (b : UInt8) : IntKind.u32.wrap (b.toNat : Int) = bv (w8 b) := by
  have := b.toNat_lt
  rw [wu32]
  unfold bv w8
  rw [BitVec.toNat_ofNat]
  omega
theorem low_bv (x : BitVec 32) : (bits .and .u32 (bv x) 1 = 1) ↔ x.getLsbD 0 = true := by
  have e : (1 : Int) = bv 1#32 := rfl
  rw [e, and_bv]
  unfold bv
  rw [BitVec.toNat_and]
  have h2 : (1#32).toNat = 2 ^ 1 - 1 := rfl
  rw [h2, Nat.and_two_pow_sub_one_eq_mod, BitVec.getLsbD, Nat.testBit_zero]
  simp
  omega
theorem st_bv (x : BitVec 32) : (if bits .and .u32 (bv x) 1 = 1 then bits .xor .u32 ((bv x).fdiv (2 ^ Nat.min 1 IntKind.u32.bits)) 2197175160 else (bv x).fdiv (2 ^ Nat.min 1 IntKind.u32.bits)) = bv (st x) := by
  have e : (2197175160 : Int) = bv poly := rfl
  rw [shr_bv x 1 (by omega), e, xor_bv]
  unfold st
  by_cases h : x.getLsbD 0 = true
  · rw [if_pos ((low_bv x).2 h), if_pos h]
  · rw [if_neg (fun h' => h ((low_bv x).1 h')), if_neg h, BitVec.xor_zero]
theorem stN_succ (n : Nat) (x : BitVec 32) : stN (n + 1) x = st (stN n x) := stN_add n 1 x
theorem cpl_bv (x : BitVec 32) : bits .xor .u32 IntKind.u32.max (bv x) = bv (~~~x) := by
  have e : IntKind.u32.max = bv (BitVec.allOnes 32) := rfl
  rw [e, xor_bv, BitVec.allOnes_xor]
theorem from_snoc (s : List UInt8) (i : Nat) (hi : i < s.length) (r : BitVec 32) : from_ r (s.take (i + 1)) = by8 (from_ r (s.take i)) s[i] := by
  rw [List.take_succ_eq_append_getElem hi, from_append]
  rfl
theorem get_refSum (s : List UInt8) (hs : s.length ≤ 140737488355328) {Q : List D → Prop} (h : Q [.int (bv (crc s))]) : Gt 33 [.str s] Q := by
  refine get rfl ?_
  simp only [t33]
  refine wp_loop_rule (fun m ws => ∃ i : Nat, m + i = s.length ∧ ws = [.int (bv (from_ 0xFFFFFFFF#32 (s.take i))), .int i]) ?_ ?_
  · rintro m ws ⟨i, hm, rfl⟩
    by_cases hi : (i : Int) < s.length
    · have hi' : i < s.length := by omega
      have hb : s[i]?.getD 0 = s[i] := by rw [List.getElem?_eq_getElem hi']; rfl
      simp [hi, hb]
      refine wp_loop_rule (fun m' ws => ∃ k : Nat, m' + k = 8 ∧ ws = [.int (bv (stN k (from_ 0xFFFFFFFF#32 (s.take i) ^^^ w8 s[i]))), .int k]) ?_ ?_
      · rintro m' ws ⟨k, hk, rfl⟩
        have e3 : IntKind.i64.wrap ((k : Int) + 1) = k + 1 := wi (by omega)
        have e4 : IntKind.i64.wrap ((i : Int) + 1) = i + 1 := wi (by omega)
        by_cases hk8 : (k : Int) < 8
        · have hst := st_bv (stN k (from_ 0xFFFFFFFF#32 (s.take i) ^^^ w8 s[i]))
          rw [← stN_succ] at hst
          simp [hk8, e3]
          split
          · rename_i hc
            rw [if_pos hc] at hst
            exact ⟨m' - 1, by omega, k + 1, by omega, hst, by omega⟩
          · rename_i hc
            rw [if_neg hc] at hst
            exact ⟨m' - 1, by omega, k + 1, by omega, hst, by omega⟩
        · have : k = 8 := by omega
          subst this
          simp [e4]
          refine ⟨m - 1, by omega, i + 1, by omega, ?_, by omega⟩
          rw [from_snoc s i hi']
          rfl
      · simp
        refine ⟨8, 0, by omega, ?_, rfl⟩
        rw [byte_bv, xor_bv, hb]
        rfl
    · have hii : i = s.length := by omega
      simp [hi]
      rw [hii, List.take_length]
      show Q [.int (bits .xor .u32 (if IntKind.u32.signed = true then -1 else IntKind.u32.max) _)]
      rw [if_neg (by decide), cpl_bv]
      exact h
  · simp
    exact ⟨s.length, 0, by omega, rfl, rfl⟩
/-- The remainders of half bytes. -/
def rems : List (List D) := (List.range 16).map fun i => [.int (bv (stN 4 (BitVec.ofNat 32 i)))]
theorem rems_at (i : Nat) (hi : i < 16) : rems.getD i [] = [.int (bv (stN 4 (BitVec.ofNat 32 i)))] := by
  unfold rems
  rw [List.getD_eq_getElem?_getD, List.getElem?_map, List.getElem?_range hi]
  rfl
theorem get_rems {Q : List D → Prop} (h : Q [.rows rems]) : Gt 58 [] Q := by
  refine get rfl ?_
  simp only [t58]
  refine wp_loop_rule (fun m ws => ∃ i : Nat, m + i = 16 ∧ ws = [.int i, .rows (rems.take i ++ List.replicate (16 - i) [.int 0])]) ?_ ?_
  · rintro m ws ⟨i, hm, rfl⟩
    have e4 : IntKind.i64.wrap ((i : Int) + 1) = i + 1 := wi (by omega)
    by_cases hi : (i : Int) < 16
    · simp [hi]
      refine wp_loop_rule (fun m' ws => ∃ k : Nat, m' + k = 4 ∧ ws = [.int (bv (stN k (BitVec.ofNat 32 i))), .int k]) ?_ ?_
      · rintro m' ws ⟨k, hk, rfl⟩
        have e3 : IntKind.i64.wrap ((k : Int) + 1) = k + 1 := wi (by omega)
        by_cases hk4 : (k : Int) < 4
        · have hst := st_bv (stN k (BitVec.ofNat 32 i))
          rw [← stN_succ] at hst
          simp [hk4, e3]
          split
          · rename_i hc
            rw [if_pos hc] at hst
            exact ⟨m' - 1, by omega, k + 1, by omega, hst, by omega⟩
          · rename_i hc
            rw [if_neg hc] at hst
            exact ⟨m' - 1, by omega, k + 1, by omega, hst, by omega⟩
        · have : k = 4 := by omega
          subst this
          simp [e4, hi]
          refine ⟨m - 1, by omega, i + 1, by omega, by omega, ?_⟩
          have hl : rems.length = 16 := rfl
          have e1 : (rems.take i).length = i := by simp [hl]; omega
          have e5 : rems[i]? = some [.int (bv (stN 4 (BitVec.ofNat 32 i)))] := by
            have := rems_at i (by omega)
            rw [List.getD_eq_getElem?_getD, List.getElem?_eq_getElem (by rw [hl]; omega)] at this
            rw [List.getElem?_eq_getElem (by rw [hl]; omega)]
            simpa using this
          obtain ⟨q, hq⟩ : ∃ q, 16 - i = q + 1 := ⟨15 - i, by omega⟩
          rw [hq, List.replicate_succ, List.set_append_right _ _ (by omega), e1, Nat.sub_self, List.set_cons_zero, List.take_add_one, e5]
          have : 16 - (i + 1) = q := by omega
          rw [this]
          simp
      · simp
        refine ⟨4, 0, by omega, ?_, rfl⟩
        show _ = bv (BitVec.ofNat 32 i)
        unfold bv
        rw [wu32, BitVec.toNat_ofNat]
        omega
    · have hii : i = 16 := by omega
      subst hii
      have hl : rems.length = 16 := rfl
      simp [List.take_of_length_le (show rems.length ≤ 16 by rw [hl]; exact Nat.le_refl _)]
      exact h
  · simp
    exact ⟨16, 0, by omega, rfl, by simp⟩
theorem half (x : BitVec 32) : bv ((x >>> 4) ^^^ stN 4 (x &&& 15#32)) = bv (stN 4 x) := by rw [← st4]
theorem low15 (x : BitVec 32) : ∃ i : Nat, i < 16 ∧ bits .and .u32 (bv x) 15 = (i : Int) ∧ x &&& 15#32 = BitVec.ofNat 32 i := by
  have e : (15 : Int) = bv 15#32 := rfl
  refine ⟨(x &&& 15#32).toNat, ?_, by rw [e, and_bv]; rfl, by simp⟩
  rw [BitVec.toNat_and]
  have h2 : (15#32).toNat = 2 ^ 4 - 1 := rfl
  rw [h2, Nat.and_two_pow_sub_one_eq_mod]
  omega
/-- One half byte, as the program takes it. -/
theorem step_half (x : BitVec 32) : ∃ i : Nat, i < 16 ∧ bits .and .u32 (bv x) 15 = (i : Int) ∧ bits .xor .u32 ((bv x).fdiv (2 ^ Nat.min 4 IntKind.u32.bits)) (bv (stN 4 (BitVec.ofNat 32 i))) = bv (stN 4 x) := by
  obtain ⟨i, h1, h2, h3⟩ := low15 x
  exact ⟨i, h1, h2, by rw [shr_bv x 4 (by omega), xor_bv, ← h3, half]⟩
theorem get_codecSum (s : List UInt8) (hs : s.length ≤ 140737488355328) {Q : List D → Prop} (h : Q [.int (bv (crc s))]) : Gt 26 [.str s] Q := by
  refine get rfl ?_
  simp only [t26, wp_call]
  refine get_rems ⟨rfl, ?_⟩
  refine wp_loop_rule (fun m ws => ∃ i : Nat, m + i = s.length ∧ ws = [.int (bv (from_ 0xFFFFFFFF#32 (s.take i))), .int i]) ?_ ?_
  · rintro m ws ⟨i, hm, rfl⟩
    by_cases hi : (i : Int) < s.length
    · have hi' : i < s.length := by omega
      have hb : s[i]?.getD 0 = s[i] := by rw [List.getElem?_eq_getElem hi']; rfl
      have e4 : IntKind.i64.wrap ((i : Int) + 1) = i + 1 := wi (by omega)
      obtain ⟨a, a1, a2, a3⟩ := step_half (from_ 0xFFFFFFFF#32 (s.take i) ^^^ w8 s[i])
      obtain ⟨b, b1, b2, b3⟩ := step_half (stN 4 (from_ 0xFFFFFFFF#32 (s.take i) ^^^ w8 s[i]))
      have ra := rems_at a a1
      have rb := rems_at b b1
      rw [List.getD_eq_getElem?_getD] at ra rb
      simp [hi, hb, byte_bv, xor_bv, a2, ra, a3, b2, rb, b3, e4]
      refine ⟨by omega, by omega, m - 1, by omega, i + 1, by omega, ?_, by omega⟩
      rw [from_snoc s i hi', ← stN_add]
      rfl
    · have hii : i = s.length := by omega
      simp [hi]
      rw [hii, List.take_length]
      show Q [.int (bits .xor .u32 (if IntKind.u32.signed = true then -1 else IntKind.u32.max) _)]
      rw [if_neg (by decide), cpl_bv]
      exact h
  · simp
    exact ⟨s.length, 0, by omega, rfl, rfl⟩
end Go.Proofs.Ytdjbjfmgdagcgaa
