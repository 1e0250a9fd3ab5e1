/- The statement EntryEncodes over trees. -/
import Derived.Test.YtdjbjfmgdagcgaaXQq
namespace Go.Proofs.Ytdjbjfmgdagcgaa
open Go.Fw Go.Crc
set_option maxRecDepth 100000
set_option linter.unusedVariables false
set_option linter.unusedSimpArgs false
set_option maxHeartbeats 8000000 in
theorem law_encodes (xs : List D) (h : DTs K [.sl 5, .int .i64, .int .i64, .int .i64, .int .i64, .int .i64, .int .i64, .int .i64, .int .i64, .bool, .str, .bool, .str, .str] xs) : Gt 14 xs (· = [.bool true]) := by
  obtain ⟨_, _, rfl, h0, h⟩ := dts_cons h
  obtain ⟨raw, rfl⟩ := dts_en h
  obtain ⟨l, rfl⟩ := dt_sl h0
  have hl := co_of h0
  clear h0 h
  refine get rfl ?_
  simp only [t14, wp_call]
  refine get_awake5 ⟨rfl, ?_⟩
  rw [wp_F _ _ _ rfl]
  by_cases hlen : (20000 : Int) < raw.blob.length
  · rw [wp_T _ _ _ (by show F2.igt.den (.int raw.blob.length) (.int 20000) = _; simp [hlen])]
    show [F2.igt.den (.int raw.blob.length) (.int 20000)] = _
    simp [hlen]
  rw [wp_F _ _ _ (by show F2.igt.den (.int raw.blob.length) (.int 20000) = _; simp [hlen]), wp_call]
  refine get_new l 100 hl (by omega) fun m hm => ⟨rfl, ?_⟩
  rw [wp_call]
  refine get_entry m 0 hm fun x a hx ha => ⟨rfl, ?_⟩
  rw [wp_call]
  refine get_oddEntry m a x ha fun o a1 h1 => ⟨rfl, ?_⟩
  rw [wp_call]
  refine get_entry m a1 h1 fun x2 a2 hx2 h2 => ⟨rfl, ?_⟩
  rw [wp_call]
  refine get_oddEntry m a2 x2 h2 fun o2 a3 h3 => ⟨rfl, ?_⟩
  simp only [En.d, List.cons_append, List.nil_append]
  refine wp_loop_rule (fun r ws => ∃ i : Nat, r + i = 4 ∧ ws = [.int i]) ?_ ?_
  · rintro r ws ⟨i, hi, rfl⟩
    have : i = 0 ∨ i = 1 ∨ i = 2 ∨ i = 3 ∨ i = 4 := by omega
    rcases this with rfl | rfl | rfl | rfl | rfl
    · simp (maxSteps := 10000000)
      refine get_implEncode3 raw fun u1 k1 e1 e2 => ⟨rfl, ?_⟩
      simp (maxSteps := 10000000)
      refine get_refEncode2 raw fun u2 k2 e3 e4 => ⟨rfl, ?_⟩
      obtain ⟨rfl, rfl⟩ := enc_same e1 e2 e3 e4
      simp (maxSteps := 10000000)
      refine get_implValid raw fun r1 hr1 => ⟨rfl, ?_⟩
      simp (maxSteps := 10000000)
      refine get_refValid raw fun r2 hr2 => ⟨rfl, ?_⟩
      obtain rfl : r1 = r2 := Bool.eq_iff_iff.2 (hr1.trans hr2.symm)
      simp (maxSteps := 10000000)
      refine get_implChanges raw ⟨rfl, ?_⟩
      simp (maxSteps := 10000000)
      refine get_refChanges raw ⟨rfl, ?_⟩
      simp (maxSteps := 10000000)
      exact ⟨r - 1, by omega, 1, by omega, rfl⟩
    · simp (maxSteps := 10000000)
      refine get_implEncode3 x fun u1 k1 e1 e2 => ⟨rfl, ?_⟩
      simp (maxSteps := 10000000)
      refine get_refEncode2 x fun u2 k2 e3 e4 => ⟨rfl, ?_⟩
      obtain ⟨rfl, rfl⟩ := enc_same e1 e2 e3 e4
      simp (maxSteps := 10000000)
      refine get_implValid x fun r1 hr1 => ⟨rfl, ?_⟩
      simp (maxSteps := 10000000)
      refine get_refValid x fun r2 hr2 => ⟨rfl, ?_⟩
      obtain rfl : r1 = r2 := Bool.eq_iff_iff.2 (hr1.trans hr2.symm)
      simp (maxSteps := 10000000)
      refine get_implChanges x ⟨rfl, ?_⟩
      simp (maxSteps := 10000000)
      refine get_refChanges x ⟨rfl, ?_⟩
      simp (maxSteps := 10000000)
      exact ⟨r - 1, by omega, 2, by omega, rfl⟩
    · simp (maxSteps := 10000000)
      refine get_implEncode3 o fun u1 k1 e1 e2 => ⟨rfl, ?_⟩
      simp (maxSteps := 10000000)
      refine get_refEncode2 o fun u2 k2 e3 e4 => ⟨rfl, ?_⟩
      obtain ⟨rfl, rfl⟩ := enc_same e1 e2 e3 e4
      simp (maxSteps := 10000000)
      refine get_implValid o fun r1 hr1 => ⟨rfl, ?_⟩
      simp (maxSteps := 10000000)
      refine get_refValid o fun r2 hr2 => ⟨rfl, ?_⟩
      obtain rfl : r1 = r2 := Bool.eq_iff_iff.2 (hr1.trans hr2.symm)
      simp (maxSteps := 10000000)
      refine get_implChanges o ⟨rfl, ?_⟩
      simp (maxSteps := 10000000)
      refine get_refChanges o ⟨rfl, ?_⟩
      simp (maxSteps := 10000000)
      exact ⟨r - 1, by omega, 3, by omega, rfl⟩
    · simp (maxSteps := 10000000)
      refine get_implEncode3 o2 fun u1 k1 e1 e2 => ⟨rfl, ?_⟩
      simp (maxSteps := 10000000)
      refine get_refEncode2 o2 fun u2 k2 e3 e4 => ⟨rfl, ?_⟩
      obtain ⟨rfl, rfl⟩ := enc_same e1 e2 e3 e4
      simp (maxSteps := 10000000)
      refine get_implValid o2 fun r1 hr1 => ⟨rfl, ?_⟩
      simp (maxSteps := 10000000)
      refine get_refValid o2 fun r2 hr2 => ⟨rfl, ?_⟩
      obtain rfl : r1 = r2 := Bool.eq_iff_iff.2 (hr1.trans hr2.symm)
      simp (maxSteps := 10000000)
      refine get_implChanges o2 ⟨rfl, ?_⟩
      simp (maxSteps := 10000000)
      refine get_refChanges o2 ⟨rfl, ?_⟩
      simp (maxSteps := 10000000)
      exact ⟨r - 1, by omega, 4, by omega, rfl⟩
    · simp (maxSteps := 10000000)
  · exact ⟨_, rfl, 4, 0, by omega, rfl⟩
end Go.Proofs.Ytdjbjfmgdagcgaa
