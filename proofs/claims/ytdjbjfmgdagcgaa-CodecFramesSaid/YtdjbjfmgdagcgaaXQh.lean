/- The statement CodecFrames over trees. -/
import Derived.Test.YtdjbjfmgdagcgaaXQg
namespace Go.Proofs.Ytdjbjfmgdagcgaa
open Go.Fw Go.Crc
set_option maxRecDepth 100000
set_option linter.unusedVariables false
set_option linter.unusedSimpArgs false
theorem unframeS_three (s : List UInt8) (a : Int) : ∃ p n e, unframeS s a = [.str p, .int n, .int e] := by
  unfold unframeS unframeN bad
  repeat' split
  all_goals exact ⟨_, _, _, rfl⟩
theorem frameS_len (p : List UInt8) (hp : p.length ≤ 140737488351232 - 16) : (frameS p).length ≤ p.length + 8 := by
  unfold frameS
  split
  · simp
  · rw [show (4 : Int) = ((4 : Nat) : Int) from rfl, putS_in _ _ 4 (by omega), putS_in _ _ 4 (by omega)]
    simp
    omega
theorem co_of {l : List (List D)} (h : DT K (.sl 5) (.rows l)) : CO l 0 := by
  cases h with
  | sl _ ts _ ht h hl =>
    have e1 : K.tab 5 = some [.int .u8] := by kernel_rfl
    rw [e1] at ht
    injection ht with ht
    subst ht
    have e2 : K.P.bytesOf 5 = 1 := by kernel_rfl
    rw [e2] at hl
    refine ⟨by omega, by omega, by omega, fun r hr => ?_⟩
    obtain ⟨_, _, rfl, h0, h1⟩ := dts_cons (h.mem r hr)
    obtain rfl := dts_nil h1
    obtain ⟨x, rfl, hx⟩ := dt_int h0
    exact ⟨x, rfl, u8b hx⟩
theorem dt_sl {e : Nat} {d : D} (h : DT K (.sl e) d) : ∃ l, d = .rows l := by cases h with | sl _ _ rows _ _ _ => exact ⟨rows, rfl⟩
theorem law_frames (xs : List D) (h : DTs K [.sl 5, .str, .int .i64, .int .u8] xs) : Gt 7 xs (· = [.bool true]) := by
  obtain ⟨_, _, rfl, h0, h⟩ := dts_cons h
  obtain ⟨_, _, rfl, h1, h⟩ := dts_cons h
  obtain ⟨_, _, rfl, h2, h⟩ := dts_cons h
  obtain ⟨_, _, rfl, h3, h⟩ := dts_cons h
  obtain rfl := dts_nil h
  obtain ⟨l, rfl⟩ := dt_sl h0
  have hl := co_of h0
  obtain ⟨s, rfl, hs⟩ := dt_str h1
  obtain ⟨at_, rfl, hat⟩ := dt_int h2
  obtain ⟨lg, rfl, hlg⟩ := dt_int h3
  have hat := i64b hat
  have hlg := u8b hlg
  clear h0 h1 h2 h3
  refine get rfl ?_
  simp only [t7, wp_call]
  refine get_awake1 ⟨rfl, ?_⟩
  by_cases hlen : (600 : Int) < s.length
  · simp [hlen]
  simp [hlen]
  refine get_new l 60 hl (by omega) fun m hm => ⟨rfl, ?_⟩
  simp
  refine get_refFrame s (by omega) ⟨rfl, ?_⟩
  have hF := frameS_len s (by omega)
  simp
  refine get_spoilt m 0 (frameS s) hm (by omega) fun t a1 ht ha1 => ⟨rfl, ?_⟩
  have ew1 : IntKind.i64.wrap ((s.length : Int) + (frameS s).length) = s.length + (frameS s).length := wi (by omega)
  have ew2 : IntKind.i64.wrap (((frameS s).length : Int) + 1) = (frameS s).length + 1 := wi (by omega)
  simp [ew1, ew2]
  refine ⟨by omega, by omega, by omega, ?_⟩
  refine get_next m a1 _ ha1 fun k a2 hk0 _ hk1 hk2 ha2 => ⟨rfl, ?_⟩
  simp [hk0, show k ≤ (frameS s).length by omega]
  refine get_next m a2 256 ha2 fun x a3 hx0 _ hx1 hx2 ha3 => ⟨rfl, ?_⟩
  simp
  refine get_next m a3 64 ha3 fun y a4 hy0 _ hy1 hy2 ha4 => ⟨rfl, ?_⟩
  have ew3 : IntKind.i64.wrap (4 + (s.length : Int)) = s.length + 4 := by rw [wi (by omega)]; omega
  simp [ew3]
  refine ⟨by omega, by omega, ?_⟩
  refine wp_loop_rule (fun r ws => ∃ i : Nat, ∃ a : Int, r + i = 6 ∧ ws = [.int i, .rows m, .int a] ∧ CO m a) ?_ ?_
  · rintro r ws ⟨i, a, hi, rfl, ha⟩
    by_cases h6 : (i : Int) < 6
    · obtain ⟨u, hu, hul⟩ : ∃ u : List UInt8, (([[D.str s], [D.str (frameS s)], [D.str t], [D.str (s ++ frameS s)], [D.str (List.take k.toNat (frameS s))], [D.str (UInt8.ofNat (IntKind.u8.wrap x).toNat :: UInt8.ofNat (IntKind.u8.wrap y).toNat :: 0 :: 0 :: s)]] : List (List D))[i]?.getD [])[0]?.getD default = D.str u ∧ u.length ≤ 2000 := by
        have : i = 0 ∨ i = 1 ∨ i = 2 ∨ i = 3 ∨ i = 4 ∨ i = 5 := by omega
        rcases this with rfl | rfl | rfl | rfl | rfl | rfl
        · exact ⟨_, rfl, by omega⟩
        · exact ⟨_, rfl, by omega⟩
        · exact ⟨_, rfl, by omega⟩
        · exact ⟨_, rfl, by simp; omega⟩
        · exact ⟨_, rfl, by simp; omega⟩
        · exact ⟨_, rfl, by simp; omega⟩
      have ew4 : IntKind.i64.wrap ((i : Int) + 1) = i + 1 := wi (by omega)
      simp [h6, hu]
      refine get_next m a _ ha fun z a5 hz0 hz3 hz1 hz2 ha5 => ⟨rfl, ?_⟩
      refine wp_loop_rule (fun r' ws => ∃ j : Nat, r' + j = 4 ∧ ws = [.int j]) ?_ ?_
      · rintro r' ws ⟨j, hj, rfl⟩
        have ew5 : IntKind.i64.wrap ((j : Int) + 1) = j + 1 := wi (by omega)
        by_cases h4 : (j : Int) < 4
        · obtain ⟨v, hv, hv1⟩ : ∃ v : Int, (([[D.int at_], [D.int 0], [D.int s.length], [D.int z]] : List (List D))[j]?.getD [])[0]?.getD default = D.int v ∧ -9223372036854775808 ≤ v ∧ v < 9223372036854775808 := by
            have : j = 0 ∨ j = 1 ∨ j = 2 ∨ j = 3 := by omega
            rcases this with rfl | rfl | rfl | rfl
            · exact ⟨_, rfl, hat⟩
            · exact ⟨_, rfl, by omega⟩
            · exact ⟨_, rfl, by omega⟩
            · exact ⟨_, rfl, by omega⟩
          obtain ⟨p, n, e, hp⟩ := unframeS_three u v
          simp [h4, hu, hv]
          refine get_codecUnframe u v (by omega) hv1 ?_
          rw [hp]
          refine ⟨rfl, ?_⟩
          simp [hu, hv]
          refine get_refUnframe u v (by omega) hv1 ?_
          rw [hp]
          refine ⟨rfl, ?_⟩
          simp [ew5]
          exact ⟨r' - 1, by omega, j + 1, by omega, by omega⟩
        · simp [h4, hu]
          refine get_codecSum u (by omega) ⟨rfl, ?_⟩
          simp [hu]
          refine get_refSum u (by omega) ⟨rfl, ?_⟩
          simp [hu]
          refine get_codecFrame u (by omega) ⟨rfl, ?_⟩
          simp [hu]
          refine get_refFrame u (by omega) ⟨rfl, ?_⟩
          simp [ew4]
          exact ⟨r - 1, by omega, i + 1, by omega, a5, ⟨by omega, rfl⟩, ha5⟩
      · simp
        exact ⟨4, 0, by omega, by omega⟩
    · simp [h6]
      refine get_next m a 8 ha fun z a5 hz0 hz3 hz1 hz2 ha5 => ⟨rfl, ?_⟩
      have hr := Int.tmod_eq_emod_of_nonneg hlg.1 (b := 5)
      have ew6 : IntKind.i64.wrap lg = lg := wi (by omega)
      have ew7 : IntKind.i64.wrap (8390 + lg.tmod 5) = 8390 + lg.tmod 5 := wi (by omega)
      by_cases hz : 0 < z
      · simp [hz]
      simp [hz, ew6, ew7]
      refine ⟨by omega, by omega, ?_⟩
      refine get_codecFrame _ (by simp; omega) ⟨rfl, ?_⟩
      simp [ew6, ew7]
      refine get_refFrame _ (by simp; omega) ⟨rfl, ?_⟩
      simp
  · simp
    exact ⟨6, 0, by omega, a4, ⟨rfl, rfl⟩, ha4⟩
end Go.Proofs.Ytdjbjfmgdagcgaa
