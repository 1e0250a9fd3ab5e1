/- Numbers in bytes: what Put and Get do, in the program and in the reference. -/
import Derived.Test.YtdjbjfmgdagcgaaXB
import Derived.Laws.BitsLemmas
namespace Go.Proofs.Ytdjbjfmgdagcgaa
open Go.Fw
set_option maxRecDepth 100000
set_option linter.unusedVariables false
set_option linter.unusedSimpArgs false
abbrev Gt (f : Nat) (xs : List D) (Q : List D → Prop) : Prop := Gets K TA natA f xs Q
theorem wi {n : Int} (h : -9223372036854775808 ≤ n ∧ n < 9223372036854775808) : IntKind.i64.wrap n = n := by rw [IntKind.wrap_i64]; omega
theorem wu64 (n : Int) : IntKind.u64.wrap n = n % 18446744073709551616 := by simp [IntKind.wrap, IntKind.bits, IntKind.signed]
theorem wu32 (n : Int) : IntKind.u32.wrap n = n % 4294967296 := IntKind.wrap_u32 n
theorem wu8 (n : Int) : IntKind.u8.wrap n = n % 256 := IntKind.wrap_u8 n
theorem minr {a b : Nat} (h : a ≤ b) : Nat.min a b = a := Nat.min_eq_left h
/-- The number that bytes mean, lowest byte first. -/
def num : List UInt8 → Nat
  | [] => 0
  | b :: l => b.toNat + 256 * num l
theorem num_lt : ∀ l : List UInt8, num l < 256 ^ l.length
  | [] => by simp [num]
  | b :: l => by
    have := num_lt l
    have hb := b.toNat_lt
    simp only [num, List.length_cons, Nat.pow_succ]
    omega
theorem num_append : ∀ (l m : List UInt8), num (l ++ m) = num l + 256 ^ l.length * num m
  | [], m => by simp [num]
  | b :: l, m => by
    simp only [List.cons_append, num, num_append l m, List.length_cons, Nat.pow_succ]
    rw [Nat.mul_add, Nat.mul_comm (256 ^ l.length) 256, Nat.mul_assoc]
    omega
def getS (s : List UInt8) (a n : Int) : List D :=
  if n < 1 ∨ 8 < n ∨ a < 0 then [.int 0, .int 1] else if (s.length : Int) < a ∨ s.length - a < n then [.int 0, .int 5] else [.int (IntKind.i64.wrap (num ((s.drop a.toNat).take n.toNat))), .int 0]
theorem or_bytes (x : Nat) (b : Nat) (j : Nat) (hj : j < 8) (hx : x < 256 ^ j) (hb : b < 256) : bits .or .u64 (x : Int) (IntKind.u64.wrap (b * 2 ^ (8 * j))) = ((x + 256 ^ j * b : Nat) : Int) := by
  have e1 : (256 : Nat) ^ j = 2 ^ (8 * j) := by rw [Nat.pow_mul]
  have hlt : b * 2 ^ (8 * j) < 2 ^ 64 := by
    have h1 : (2 : Nat) ^ (8 * j) ≤ 2 ^ 56 := Nat.pow_le_pow_right (by omega) (by omega)
    have h2 : b * 2 ^ (8 * j) ≤ 255 * 2 ^ 56 := Nat.mul_le_mul (by omega) h1
    omega
  have hx64 : x < 2 ^ 64 := by
    have h1 : (2 : Nat) ^ (8 * j) ≤ 2 ^ 56 := Nat.pow_le_pow_right (by omega) (by omega)
    rw [e1] at hx
    omega
  have hw : IntKind.u64.wrap ((b : Int) * 2 ^ (8 * j)) = ((b * 2 ^ (8 * j) : Nat) : Int) := by
    rw [wu64]
    have : ((b : Int) * 2 ^ (8 * j)) = ((b * 2 ^ (8 * j) : Nat) : Int) := by simp
    rw [this]
    omega
  rw [hw, (bits_nat .u64 64 (by decide) (fun n h0 h1 => by rw [wu64]; omega) x _ hx64 hlt).2]
  congr 1
  have := Nat.two_pow_add_eq_or_of_lt (show x < 2 ^ (8 * j) by rw [← e1]; exact hx) b
  rw [Nat.mul_comm b, Nat.or_comm, ← this, e1]
  omega
theorem get_codecGet (s : List UInt8) (a n : Int) (hs : s.length ≤ 140737488355328) (ha : -9223372036854775808 ≤ a ∧ a < 9223372036854775808) {Q : List D → Prop} (h : Q (getS s a n)) : Gt 24 [.str s, .int a, .int n] Q := by
  refine get rfl ?_
  simp only [t24, wp_ite]
  unfold getS at h
  by_cases h1 : n < 1
  · simpa [h1] using h
  by_cases h2 : 8 < n
  · simpa [h1, h2] using h
  by_cases h3 : a < 0
  · simpa [h1, h2, h3] using h
  by_cases h4 : (s.length : Int) < a
  · simpa [h1, h2, h3, h4] using h
  have hw : IntKind.i64.wrap (s.length - a) = s.length - a := wi (by omega)
  by_cases h5 : (s.length : Int) - a < n
  · simpa [h1, h2, h3, h4, h5, hw] using h
  simp only [h1, h2, h3, h4, h5, false_or, if_false] at h
  simp [h1, h2, h3, h4, h5, hw]
  refine wp_loop_rule (fun m ws => ∃ j : Nat, m + j = n.toNat ∧ ws = [.int (num ((s.drop a.toNat).take j)), .int j]) ?_ ?_
  · rintro m ws ⟨j, hm, rfl⟩
    have e1 : IntKind.i64.wrap (a + j) = a + j := wi (by omega)
    have e2 : IntKind.i64.wrap (8 * (j : Int)) = 8 * j := wi (by omega)
    have e3 : IntKind.i64.wrap ((j : Int) + 1) = j + 1 := wi (by omega)
    have e5 : IntKind.u64.wrap (8 * (j : Int)) = 8 * j := by rw [wu64]; omega
    have hlen : (s.drop a.toNat).length = s.length - a.toNat := by simp
    simp [e1, e2, e3]
    by_cases hj : (j : Int) < n
    · have hidx : (a + (j : Int)).toNat < s.length := by omega
      have hb : s.getD (a + (j : Int)).toNat 0 = (s.drop a.toNat)[j]'(by omega) := by
        rw [List.getElem_drop, List.getD_eq_getElem?_getD, List.getElem?_eq_getElem hidx]
        simp only [Option.getD_some]
        congr 1
        omega
      have htk : (s.drop a.toNat).take (j + 1) = (s.drop a.toNat).take j ++ [(s.drop a.toNat)[j]'(by omega)] := by
        rw [List.take_succ_eq_append_getElem (by omega)]
      have hnl := num_lt ((s.drop a.toNat).take j)
      have htl : ((s.drop a.toNat).take j).length = j := by simp; omega
      rw [htl] at hnl
      have e4 : (8 * (j : Int)).toNat = 8 * j := by omega
      simp [hj]
      refine ⟨by omega, by omega, by omega, m - 1, by omega, j + 1, by omega, ?_, by omega⟩
      rw [htk, num_append, htl]
      simp only [num, Nat.mul_zero, Nat.add_zero]
      rw [← or_bytes _ _ j (by omega) hnl (UInt8.toNat_lt _)]
      have hbb := hb
      rw [List.getD_eq_getElem?_getD] at hbb
      rw [hbb, e4, wu64 (UInt8.toNat _)]
      have h8 : Nat.min (8 * j) IntKind.u64.bits = 8 * j := minr (by show 8 * j ≤ 64; omega)
      rw [h8]
      congr 2
      have := UInt8.toNat_lt ((s.drop a.toNat)[j]'(by omega))
      congr 1
      omega
    · have hjn : j = n.toNat := by omega
      simp [hj]
      rw [hjn]
      exact h
  · simp
    exact ⟨n.toNat, 0, by omega, by simp [num], rfl⟩
theorem get_refGet (s : List UInt8) (a n : Int) (hs : s.length ≤ 140737488355328) (ha : -9223372036854775808 ≤ a ∧ a < 9223372036854775808) {Q : List D → Prop} (h : Q (getS s a n)) : Gt 25 [.str s, .int a, .int n] Q := by
  refine get rfl ?_
  simp only [t25, wp_ite]
  unfold getS at h
  by_cases h1 : n < 1
  · simpa [h1] using h
  by_cases h2 : 8 < n
  · simpa [h1, h2] using h
  by_cases h3 : a < 0
  · simpa [h1, h2, h3] using h
  by_cases h4 : (s.length : Int) < a
  · simpa [h1, h2, h3, h4] using h
  have hw : IntKind.i64.wrap (s.length - a) = s.length - a := wi (by omega)
  by_cases h5 : (s.length : Int) - a < n
  · simpa [h1, h2, h3, h4, h5, hw] using h
  simp only [h1, h2, h3, h4, h5, false_or, if_false] at h
  simp [h1, h2, h3, h4, h5, hw]
  refine wp_loop_rule (fun m ws => ∃ j : Nat, m + j = n.toNat ∧ ws = [.int (num ((s.drop a.toNat).take j)), .int j]) ?_ ?_
  · rintro m ws ⟨j, hm, rfl⟩
    have e1 : IntKind.i64.wrap (a + j) = a + j := wi (by omega)
    have e2 : IntKind.i64.wrap (8 * (j : Int)) = 8 * j := wi (by omega)
    have e3 : IntKind.i64.wrap ((j : Int) + 1) = j + 1 := wi (by omega)
    have e5 : IntKind.u64.wrap (8 * (j : Int)) = 8 * j := by rw [wu64]; omega
    have hlen : (s.drop a.toNat).length = s.length - a.toNat := by simp
    simp [e1, e2, e3, e5]
    by_cases hj : (j : Int) < n
    · have hidx : (a + (j : Int)).toNat < s.length := by omega
      have hb : s.getD (a + (j : Int)).toNat 0 = (s.drop a.toNat)[j]'(by omega) := by
        rw [List.getElem_drop, List.getD_eq_getElem?_getD, List.getElem?_eq_getElem hidx]
        simp only [Option.getD_some]
        congr 1
        omega
      have htk : (s.drop a.toNat).take (j + 1) = (s.drop a.toNat).take j ++ [(s.drop a.toNat)[j]'(by omega)] := by
        rw [List.take_succ_eq_append_getElem (by omega)]
      have hnl := num_lt ((s.drop a.toNat).take j)
      have htl : ((s.drop a.toNat).take j).length = j := by simp; omega
      rw [htl] at hnl
      have e4 : (8 * (j : Int)).toNat = 8 * j := by omega
      simp [hj]
      refine ⟨by omega, by omega, by omega, m - 1, by omega, j + 1, by omega, ?_, by omega⟩
      rw [htk, num_append, htl]
      simp only [num, Nat.mul_zero, Nat.add_zero]
      rw [← or_bytes _ _ j (by omega) hnl (UInt8.toNat_lt _)]
      have hbb := hb
      rw [List.getD_eq_getElem?_getD] at hbb
      rw [hbb, e4, wu64 (UInt8.toNat _)]
      have h8 : Nat.min (8 * j) IntKind.u64.bits = 8 * j := minr (by show 8 * j ≤ 64; omega)
      rw [h8]
      congr 2
      have := UInt8.toNat_lt ((s.drop a.toNat)[j]'(by omega))
      congr 1
      omega
    · have hjn : j = n.toNat := by omega
      simp [hj]
      rw [hjn]
      exact h
  · simp
    exact ⟨n.toNat, 0, by omega, by simp [num], rfl⟩
theorem putB_eq (n : Int) (j : Nat) (hj : j < 8) : UInt8.ofNat (IntKind.u8.wrap ((IntKind.u64.wrap n).fdiv (2 ^ Nat.min (IntKind.u64.wrap (8 * (j : Int))).toNat IntKind.u64.bits))).toNat = putB n j := by
  have e1 : (IntKind.u64.wrap (8 * (j : Int))).toNat = 8 * j := by rw [wu64]; omega
  have e2 : Nat.min (8 * j) IntKind.u64.bits = 8 * j := minr (by show 8 * j ≤ 64; omega)
  rw [e1, e2]
  have h0 : 0 ≤ IntKind.u64.wrap n := by rw [wu64]; omega
  obtain ⟨m, hm⟩ := Int.eq_ofNat_of_zero_le h0
  unfold putB
  rw [hm, Int.fdiv_eq_ediv_of_nonneg _ (by exact_mod_cast Nat.zero_le _), wu8]
  apply UInt8.toNat.inj
  have e3 : ((m : Int) / 2 ^ (8 * j)) = ((m / 2 ^ (8 * j) : Nat) : Int) := by simp
  rw [e3]
  simp only [Int.toNat_natCast]
  generalize m / 2 ^ (8 * j) = q
  rw [UInt8.toNat_ofNat', UInt8.toNat_ofNat']
  omega
theorem get_refPut (s : List UInt8) (n k : Int) (hs : s.length + 8 ≤ 140737488355328) {Q : List D → Prop} (h : Q [.str (putS s n k)]) : Gt 23 [.str s, .int n, .int k] Q := by
  refine get rfl ?_
  unfold putS at h
  simp only [t23, wp_ite]
  by_cases h1 : k < 1
  · rw [if_neg (by omega)] at h
    simpa [h1] using h
  by_cases h2 : 8 < k
  · rw [if_neg (by omega)] at h
    simpa [h1, h2] using h
  rw [if_pos (by omega)] at h
  simp [h1, h2]
  refine wp_loop_rule (fun m ws => ∃ j : Nat, m + j = k.toNat ∧ ws = [.str (s ++ (List.range j).map (putB n)), .int j]) ?_ ?_
  · rintro m ws ⟨j, hm, rfl⟩
    have e2 : IntKind.i64.wrap (8 * (j : Int)) = 8 * j := wi (by omega)
    have e3 : IntKind.i64.wrap ((j : Int) + 1) = j + 1 := wi (by omega)
    have e4 : IntKind.i64.wrap ((s.length : Int) + j + 1) = s.length + j + 1 := wi (by omega)
    by_cases hj : (j : Int) < k
    · have e5 := putB_eq n j (by omega)
      have e6 : 0 ≤ IntKind.u64.wrap (8 * (j : Int)) := by rw [wu64]; omega
      simp only [wp_ite, wp_guard, wp_jump, List.append_assoc, List.cons_append, List.nil_append, ev_e2, ev_e1, ev_var, ev_lt, List.getD_cons_zero, List.getD_cons_succ, d_ilt, d_mul, d_ile, d_conv, d_shr, d_one, d_app, d_strOf, d_slen, d_cat, d_add, lt_int, lt_nil, cond_bool, List.map_cons, List.map_nil, List.headD_cons, D.toInt, e2, e3, hj, decide_true, if_true]
      rw [e5]
      simp [e3]
      refine ⟨e6, ?_, by omega, m - 1, by omega, j + 1, by omega, ?_, by omega⟩
      · rw [wi (by omega)]; omega
      · rw [List.range_succ]; simp
    · have hjn : j = k.toNat := by omega
      simp [hj]
      rw [hjn]
      exact h
  · simp
    exact ⟨k.toNat, 0, by omega, by simp, rfl⟩
end Go.Proofs.Ytdjbjfmgdagcgaa
