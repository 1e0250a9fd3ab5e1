/- The statements CodecNumbers and CodecBack over trees. -/
import Derived.Test.YtdjbjfmgdagcgaaXQc
namespace Go.Proofs.Ytdjbjfmgdagcgaa
open Go.Fw Go.Crc
set_option maxRecDepth 100000
set_option linter.unusedVariables false
set_option linter.unusedSimpArgs false
theorem get_awake1 {Q : List D → Prop} (h : Q [.bool true]) : Gt 21 [] Q := by
  refine get rfl ?_
  simp only [t21, wp_call]
  refine get_put [] 513 2 (by simp) ⟨rfl, get_codecGet (putS [] 513 2) 0 2 (by decide) (by omega) ⟨rfl, get_codecSum _ (by decide) ⟨rfl, ?_⟩⟩⟩
  have e1 : getS (putS [] 513 2) 0 2 = [.int 513, .int 0] := by kernel_rfl
  have e2 : bv (crc [49, 50, 51, 52, 53, 54, 55, 56, 57]) = 3808858755 := by kernel_rfl
  rw [e1, e2]
  simpa using h
theorem getS_two (s : List UInt8) (a n : Int) : ∃ x y, getS s a n = [.int x, .int y] := by
  unfold getS
  split
  · exact ⟨_, _, rfl⟩
  · split <;> exact ⟨_, _, rfl⟩
theorem dt_int {k : IntKind} {d : D} (h : DT K (.int k) d) : ∃ n, d = .int n ∧ k.min ≤ n ∧ n ≤ k.max := by cases h with | int _ n h => exact ⟨n, rfl, h⟩
theorem dt_bool {d : D} (h : DT K .bool d) : ∃ b, d = .bool b := by cases h with | bool b => exact ⟨b, rfl⟩
theorem dt_str {d : D} (h : DT K .str d) : ∃ s, d = .str s ∧ s.length ≤ 140737488351232 := by cases h with | str s h => exact ⟨s, rfl, h⟩
theorem dts_cons {t : Ty} {ts : List Ty} {xs : List D} (h : DTs K (t :: ts) xs) : ∃ x ys, xs = x :: ys ∧ DT K t x ∧ DTs K ts ys := by cases h with | cons _ _ d ds h hs => exact ⟨d, ds, rfl, h, hs⟩
theorem dts_nil {xs : List D} (h : DTs K [] xs) : xs = [] := by cases h; rfl
theorem i64b {n : Int} (h : IntKind.i64.min ≤ n ∧ n ≤ IntKind.i64.max) : -9223372036854775808 ≤ n ∧ n < 9223372036854775808 := by
  have h1 : IntKind.i64.min = -9223372036854775808 := rfl
  have h2 : IntKind.i64.max = 9223372036854775807 := rfl
  omega
theorem u8b {n : Int} (h : IntKind.u8.min ≤ n ∧ n ≤ IntKind.u8.max) : 0 ≤ n ∧ n < 256 := by
  have h1 : IntKind.u8.min = 0 := rfl
  have h2 : IntKind.u8.max = 255 := rfl
  omega
theorem u16b {n : Int} (h : IntKind.u16.min ≤ n ∧ n ≤ IntKind.u16.max) : 0 ≤ n ∧ n < 65536 := by
  have h1 : IntKind.u16.min = 0 := rfl
  have h2 : IntKind.u16.max = 65535 := rfl
  omega
theorem law_numbers (xs : List D) (h : DTs K [.str, .int .i64, .int .i64, .int .i64, .int .u8] xs) : Gt 4 xs (· = [.bool true]) := by
  obtain ⟨_, _, rfl, h0, h⟩ := dts_cons h
  obtain ⟨_, _, rfl, h1, h⟩ := dts_cons h
  obtain ⟨_, _, rfl, h2, h⟩ := dts_cons h
  obtain ⟨_, _, rfl, h3, h⟩ := dts_cons h
  obtain ⟨_, _, rfl, h4, h⟩ := dts_cons h
  obtain rfl := dts_nil h
  obtain ⟨s, rfl, hs⟩ := dt_str h0
  obtain ⟨n, rfl, hn⟩ := dt_int h1
  obtain ⟨a, rfl, ha⟩ := dt_int h2
  obtain ⟨z, rfl, hz⟩ := dt_int h3
  obtain ⟨k, rfl, hk⟩ := dt_int h4
  have hn := i64b hn
  have ha := i64b ha
  have hz := i64b hz
  have hk := u8b hk
  refine get rfl ?_
  simp only [t4, wp_call]
  refine get_awake1 ⟨rfl, ?_⟩
  by_cases hl : (400 : Int) < s.length
  · simp [hl]
  simp [hl]
  have ek : IntKind.i64.wrap k = k := wi (by omega)
  have hz3 : ∀ x ∈ [z, k.tmod 11, 8], -9223372036854775808 ≤ x ∧ x < 9223372036854775808 := by
    intro x hx
    simp only [List.mem_cons, List.not_mem_nil, or_false] at hx
    have := Int.tmod_eq_emod_of_nonneg hk.1 (b := 11)
    rcases hx with rfl | rfl | rfl <;> omega
  refine wp_loop_rule (fun m ws => ∃ i : Nat, m + i = 3 ∧ ws = [.int i]) ?_ ?_
  · rintro m ws ⟨i, hm, rfl⟩
    have e4 : IntKind.i64.wrap ((i : Int) + 1) = i + 1 := wi (by omega)
    by_cases hi : i < 3
    · have hi' : (i : Int) < 3 := by omega
      obtain ⟨x, hx, hxr⟩ : ∃ x, ([[D.int z], [D.int (k.tmod 11)], [D.int 8]][i]?.getD []) = [D.int x] ∧ -9223372036854775808 ≤ x ∧ x < 9223372036854775808 := by
        match i, hi with
        | 0, _ => exact ⟨z, rfl, hz3 _ (by simp)⟩
        | 1, _ => exact ⟨k.tmod 11, rfl, hz3 _ (by simp)⟩
        | 2, _ => exact ⟨8, rfl, hz3 _ (by simp)⟩
      simp [hi', ek, hx]
      refine get_put s n x (by omega) ⟨rfl, ?_⟩
      simp
      refine get_refPut s n x (by omega) ⟨rfl, ?_⟩
      simp
      refine wp_loop_rule (fun m ws => ∃ j : Nat, m + j = 5 ∧ ws = [.int j]) ?_ ?_
      · rintro m' ws ⟨j, hm', rfl⟩
        have e5 : IntKind.i64.wrap ((j : Int) + 1) = j + 1 := wi (by omega)
        by_cases hj : j < 5
        · have hj' : (j : Int) < 5 := by omega
          have hkq := Int.tdiv_eq_ediv_of_nonneg hk.1 (b := 11)
          have eq1 : IntKind.i64.wrap (k.tdiv 11) = k.tdiv 11 := wi (by omega)
          obtain ⟨y, hy, hyr⟩ : ∃ y, ([[D.int a], [D.int 0], [D.int (k.tdiv 11)], [D.int s.length], [D.int (IntKind.i64.wrap (s.length - x))]][j]?.getD []) = [D.int y] ∧ -9223372036854775808 ≤ y ∧ y < 9223372036854775808 := by
            match j, hj with
            | 0, _ => exact ⟨a, rfl, ha⟩
            | 1, _ => exact ⟨0, rfl, by omega⟩
            | 2, _ => exact ⟨k.tdiv 11, rfl, by omega⟩
            | 3, _ => exact ⟨s.length, rfl, by omega⟩
            | 4, _ => exact ⟨_, rfl, by rw [IntKind.wrap_i64]; omega⟩
          simp [hj', ek, hx, eq1, hy, e5]
          obtain ⟨g1, g2, hg⟩ := getS_two s y x
          refine get_codecGet s y x (by omega) hyr ?_
          rw [hg]
          simp
          refine get_refGet s y x (by omega) hyr ?_
          rw [hg]
          simp [e5]
          exact ⟨m' - 1, by omega, j + 1, by omega, by omega⟩
        · have hj' : ¬ (j : Int) < 5 := by omega
          simp [hj', e4]
          exact ⟨m - 1, by omega, i + 1, by omega, by omega⟩
      · simp
        exact ⟨5, 0, by omega, rfl⟩
    · have hi' : ¬ (i : Int) < 3 := by omega
      simp [hi']
  · simp
    exact ⟨3, 0, by omega, rfl⟩
end Go.Proofs.Ytdjbjfmgdagcgaa
