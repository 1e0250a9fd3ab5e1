/- The statements EntryEncodes, EntryDecodes, EntrySizes, EntryFields and EntryReturns over trees. -/
import Derived.Test.YtdjbjfmgdagcgaaXQo
namespace Go.Proofs.Ytdjbjfmgdagcgaa
open Go.Fw Go.Crc
set_option maxRecDepth 100000
set_option linter.unusedVariables false
set_option linter.unusedSimpArgs false
theorem co_of {l : List (List D)} (h : DT K (.sl 5) (.rows l)) : CO l 0 := by
  cases h with
  | sl _ ts _ ht h hl =>
    have e1 : K.tab 5 = some [.int .u8] := by kernel_rfl
    rw [e1] at ht
    injection ht with ht
    subst ht
    have e2 : K.P.bytesOf 5 = 1 := by kernel_rfl
    rw [e2] at hl
    refine ⟨by omega, by omega, by omega, fun r hr => ?_⟩
    obtain ⟨_, _, rfl, h0, h1⟩ := dts_cons (h.mem r hr)
    obtain rfl := dts_nil h1
    obtain ⟨x, rfl, hx⟩ := dt_int h0
    exact ⟨x, rfl, u8b hx⟩
theorem dt_sl {e : Nat} {d : D} (h : DT K (.sl e) d) : ∃ l, d = .rows l := by cases h with | sl _ _ rows _ _ _ => exact ⟨rows, rfl⟩
theorem encS_len (e : En) (h : validP e) : (encS e).length = 46 + (cellB e.bs e.bd).length + (cellB e.az e.ad).length + e.blob.length ∧ (encS e).length ≤ 9000 := by
  obtain ⟨c1, c2, c3, _, _⟩ := h.cells
  have b1 := cellB_len e.bs e.bd c1
  have b2 := cellB_len e.az e.ad c2
  constructor
  · simp [encS]; omega
  · simp [encS]; omega
theorem get_awake5 {Q : List D → Prop} (h : Q [.bool true]) : Gt 38 [] Q := by
  refine get rfl ?_
  simp only [t38, wp_call]
  have hv : validP ⟨9, 3, 2, 8, 0, 0, 0, 0, false, [], false, [], []⟩ := by
    simp [validP, shapeP, txP, noneP, befP]
  refine get_implEncode ⟨9, 3, 2, 8, 0, 0, 0, 0, false, [], false, [], []⟩ (fun hn => absurd hv hn) fun _ => ⟨rfl, ?_⟩
  have hl := encS_len _ hv
  refine get_implDecode _ (by omega) fun x e hd => ⟨rfl, ?_⟩
  obtain ⟨rfl, rfl⟩ := dec_enc _ hv hd
  simp [cellB] at hl
  simp [En.d, hl]
  exact h
theorem law_sizes (xs : List D) (h : DTs K [.sl 5] xs) : Gt 12 xs (· = [.bool true]) := by
  obtain ⟨_, _, rfl, h0, h⟩ := dts_cons h
  obtain rfl := dts_nil h
  obtain ⟨l, rfl⟩ := dt_sl h0
  have hl := co_of h0
  clear h0 h
  refine get rfl ?_
  simp only [t12, wp_call]
  refine get_awake5 ⟨rfl, ?_⟩
  simp
  refine get_new l 100 hl (by omega) fun m hm => ⟨rfl, ?_⟩
  refine get_entry m 0 hm fun x a hx ha => ⟨rfl, ?_⟩
  refine get_implEncode x (fun hn => absurd hx.2 hn) fun hv => ⟨rfl, ?_⟩
  have hlen := encS_len x hv
  obtain ⟨c1, c2, c3, c4, c5⟩ := hv.cells
  have e1 : (cellB x.bs x.bd).length = 1 + x.bd.length := by
    rcases c4 with c4 | c4
    · simp [cellB, c4, Nat.add_comm]
    · by_cases hb : x.bs = true <;> simp [cellB, hb, c4]
  have e2 : (cellB x.az x.ad).length = 1 + x.ad.length := by
    rcases c5 with c5 | c5
    · simp [cellB, c5, Nat.add_comm]
    · by_cases hb : x.az = true <;> simp [cellB, hb, c5]
  have w1 : IntKind.i64.wrap (48 + (x.bd.length : Int)) = 48 + x.bd.length := wi (by omega)
  have w2 : IntKind.i64.wrap (48 + (x.bd.length : Int) + x.ad.length) = 48 + x.bd.length + x.ad.length := wi (by omega)
  have w3 : IntKind.i64.wrap (48 + (x.bd.length : Int) + x.ad.length + x.blob.length) = 48 + x.bd.length + x.ad.length + x.blob.length := wi (by omega)
  simp [En.d, w1, w2, w3]
  omega
theorem get_implEncode2 (e : En) {Q : List D → Prop} (h : ∀ (u : List UInt8) (k : Int), (validP e → u = encS e ∧ k = 0) → Q [.str u, .int k]) : Gt 43 e.d Q :=
  get_implEncode e (fun hn => h [] 12 fun hv => absurd hv hn) fun hv => h (encS e) 0 fun _ => ⟨rfl, rfl⟩
theorem law_returns (xs : List D) (h : DTs K [.sl 5] xs) : Gt 11 xs (· = [.bool true]) := by
  obtain ⟨_, _, rfl, h0, h⟩ := dts_cons h
  obtain rfl := dts_nil h
  obtain ⟨l, rfl⟩ := dt_sl h0
  have hl := co_of h0
  clear h0 h
  refine get rfl ?_
  simp only [t11, wp_call]
  refine get_awake5 ⟨rfl, ?_⟩
  rw [wp_F _ _ _ rfl, wp_call]
  refine get_new l 120 hl (by omega) fun m hm => ⟨rfl, ?_⟩
  rw [wp_call]
  refine get_entry m 0 hm fun x a hx ha => ⟨rfl, ?_⟩
  rw [wp_call]
  refine get_implEncode x (fun hn => absurd hx.2 hn) fun hv => ⟨rfl, ?_⟩
  have hlen := encS_len x hv
  rw [wp_F _ _ _ rfl, wp_call]
  refine get_implDecode (encS x) (by omega) fun y e hd => ⟨rfl, ?_⟩
  obtain ⟨rfl, rfl⟩ := dec_enc _ hv hd
  rw [wp_call]
  refine get_spoilt m a (encS y) ha (by omega) fun t a2 ht ha2 => ⟨rfl, ?_⟩
  rw [wp_call]
  refine get_implDecode t (by omega) fun z g hz => ⟨rfl, ?_⟩
  rw [wp_call]
  refine get_implEncode2 z fun u k huk => ⟨rfl, ?_⟩
  rw [wp_call]
  refine get_next m a2 (encS y).length ha2 fun n a3 hn0 _ hn1 _ ha3 => ⟨rfl, ?_⟩
  have hn := hn1 (by omega)
  obtain ⟨n, rfl⟩ := Int.eq_ofNat_of_zero_le hn0
  rw [wp_guard]
  refine ⟨by show D.bool (decide ((0 : Int) ≤ n)) = _; simp, ?_⟩
  rw [wp_guard]
  refine ⟨by show D.bool (decide ((n : Int) ≤ (encS y).length)) = _; simp; omega, ?_⟩
  rw [wp_guard]
  refine ⟨by show D.bool (decide ((0 : Int) ≤ n)) = _; simp, ?_⟩
  rw [wp_call]
  refine get_implDecode ((encS y).take n) (by simp; omega) fun w f hw => ⟨rfl, ?_⟩
  have hf : f = 5 := dec_short y hv n (by omega) hw
  subst hf
  simp only [En.d, List.cons_append, List.nil_append]
  rw [wp_T _ _ _ (by show F2.ieq.den (.int 0) (.int 0) = _; simp)]
  rw [wp_T _ _ _ (by show F2.deq.den (.rows [y.d]) (.rows [y.d]) = _; simp [En.d])]
  by_cases hg : g = 0
  · subst hg
    obtain ⟨vz, ez⟩ := enc_dec t hz
    obtain ⟨rfl, rfl⟩ := huk vz
    rw [wp_F _ _ _ rfl]
    rw [wp_T _ _ _ rfl]
    rw [wp_T _ _ _ (by show F2.seq.den (.str (encS z)) (.str t) = _; simp [ez])]
    rfl
  · rw [wp_T _ _ _ (by show F2.ine.den (.int g) (.int 0) = _; simp [hg])]
    rfl
set_option maxHeartbeats 8000000 in
theorem law_decodes (xs : List D) (h : DTs K [.sl 5, .str] xs) : Gt 10 xs (· = [.bool true]) := by
  obtain ⟨_, _, rfl, h0, h⟩ := dts_cons h
  obtain ⟨_, _, rfl, h1, h⟩ := dts_cons h
  obtain rfl := dts_nil h
  obtain ⟨l, rfl⟩ := dt_sl h0
  have hl := co_of h0
  obtain ⟨s, rfl, hs⟩ := dt_str h1
  clear h0 h h1
  refine get rfl ?_
  simp only [t10, wp_call]
  refine get_awake5 ⟨rfl, ?_⟩
  rw [wp_F _ _ _ rfl]
  by_cases hlen : (600 : Int) < s.length
  · rw [wp_T _ _ _ (by show F2.igt.den (.int s.length) (.int 600) = _; simp [hlen])]
    show [F2.igt.den (.int s.length) (.int 600)] = _
    simp [hlen]
  rw [wp_F _ _ _ (by show F2.igt.den (.int s.length) (.int 600) = _; simp [hlen]), wp_call]
  refine get_new l 120 hl (by omega) fun m hm => ⟨rfl, ?_⟩
  rw [wp_call]
  refine get_entry m 0 hm fun x a hx ha => ⟨rfl, ?_⟩
  rw [wp_call]
  refine get_refEncode x (fun hn => absurd hx.2 hn) fun hv => ⟨rfl, ?_⟩
  have he := (encS_len x hv).2
  rw [wp_call]
  refine get_spoilt m a (encS x) ha (by omega) fun t1 a1 ht1 h1 => ⟨rfl, ?_⟩
  rw [wp_call]
  refine get_spoilt m a1 (encS x) h1 (by omega) fun t2 a2 ht2 h2 => ⟨rfl, ?_⟩
  rw [wp_call]
  refine get_spoilt m a2 t2 h2 (by omega) fun t3 a3 ht3 h3 => ⟨rfl, ?_⟩
  have w1 : IntKind.i64.wrap (((encS x).length : Int) + s.length) = (encS x).length + s.length := wi (by omega)
  have w2 : IntKind.i64.wrap (((encS x).length : Int) + 1) = (encS x).length + 1 := wi (by omega)
  rw [wp_guard]
  refine ⟨by show D.bool (decide (IntKind.i64.wrap (((encS x).length : Int) + s.length) ≤ 140737488355328)) = _; rw [w1]; simp; omega, ?_⟩
  rw [wp_guard]
  refine ⟨by show D.bool (decide (((encS x).length : Int) ≤ 140737488355328)) = _; simp; omega, ?_⟩
  rw [wp_guard]
  refine ⟨by show D.bool (decide ((s.length : Int) ≤ 140737488355328)) = _; simp; omega, ?_⟩
  rw [wp_call]
  refine get_next m a3 (IntKind.i64.wrap (((encS x).length : Int) + 1)) h3 fun n a4 hn0 _ hn1 _ h4 => ⟨rfl, ?_⟩
  rw [w2] at hn1
  have hn := hn1 (by omega)
  obtain ⟨n, rfl⟩ := Int.eq_ofNat_of_zero_le hn0
  rw [wp_guard]
  refine ⟨by show D.bool (decide ((0 : Int) ≤ n)) = _; simp, ?_⟩
  rw [wp_guard]
  refine ⟨by show D.bool (decide ((n : Int) ≤ (encS x).length)) = _; simp; omega, ?_⟩
  rw [wp_guard]
  refine ⟨by show D.bool (decide ((0 : Int) ≤ n)) = _; simp, ?_⟩
  refine wp_loop_rule (fun r ws => ∃ i : Nat, r + i = 6 ∧ ws = [.int i]) ?_ ?_
  · rintro r ws ⟨i, hi, rfl⟩
    have : i = 0 ∨ i = 1 ∨ i = 2 ∨ i = 3 ∨ i = 4 ∨ i = 5 ∨ i = 6 := by omega
    rcases this with rfl | rfl | rfl | rfl | rfl | rfl | rfl
    · rw [wp_T _ _ _ (by show F2.ilt.den (.int 0) (.int 6) = _; simp), wp_guard]
      refine ⟨by show F2.ile.den (.int 0) (.int 0) = _; simp, ?_⟩
      rw [wp_guard]
      refine ⟨by show F2.ilt.den (.int 0) (.int 6) = _; simp, ?_⟩
      rw [wp_call]
      refine get_implDecode s (by first | omega | (simp; omega)) fun y e hd => ⟨rfl, ?_⟩
      rw [wp_call]
      refine get_refDecode s (by first | omega | (simp; omega)) fun y' e' hd' => ⟨rfl, ?_⟩
      obtain ⟨rfl, rfl⟩ := hd.one hd'
      simp only [En.d, List.cons_append, List.nil_append]
      rw [wp_F _ _ _ (by show F2.dne.den (.rows [y.d]) (.rows [y.d]) = _; simp [En.d])]
      rw [wp_F _ _ _ (by show F2.ine.den (.int e) (.int e) = _; simp)]
      exact ⟨_, rfl, r - 1, by omega, 1, by omega, rfl⟩
    · rw [wp_T _ _ _ (by show F2.ilt.den (.int 1) (.int 6) = _; simp), wp_guard]
      refine ⟨by show F2.ile.den (.int 0) (.int 1) = _; simp, ?_⟩
      rw [wp_guard]
      refine ⟨by show F2.ilt.den (.int 1) (.int 6) = _; simp, ?_⟩
      rw [wp_call]
      refine get_implDecode (encS x) (by first | omega | (simp; omega)) fun y e hd => ⟨rfl, ?_⟩
      rw [wp_call]
      refine get_refDecode (encS x) (by first | omega | (simp; omega)) fun y' e' hd' => ⟨rfl, ?_⟩
      obtain ⟨rfl, rfl⟩ := hd.one hd'
      simp only [En.d, List.cons_append, List.nil_append]
      rw [wp_F _ _ _ (by show F2.dne.den (.rows [y.d]) (.rows [y.d]) = _; simp [En.d])]
      rw [wp_F _ _ _ (by show F2.ine.den (.int e) (.int e) = _; simp)]
      exact ⟨_, rfl, r - 1, by omega, 2, by omega, rfl⟩
    · rw [wp_T _ _ _ (by show F2.ilt.den (.int 2) (.int 6) = _; simp), wp_guard]
      refine ⟨by show F2.ile.den (.int 0) (.int 2) = _; simp, ?_⟩
      rw [wp_guard]
      refine ⟨by show F2.ilt.den (.int 2) (.int 6) = _; simp, ?_⟩
      rw [wp_call]
      refine get_implDecode t1 (by first | omega | (simp; omega)) fun y e hd => ⟨rfl, ?_⟩
      rw [wp_call]
      refine get_refDecode t1 (by first | omega | (simp; omega)) fun y' e' hd' => ⟨rfl, ?_⟩
      obtain ⟨rfl, rfl⟩ := hd.one hd'
      simp only [En.d, List.cons_append, List.nil_append]
      rw [wp_F _ _ _ (by show F2.dne.den (.rows [y.d]) (.rows [y.d]) = _; simp [En.d])]
      rw [wp_F _ _ _ (by show F2.ine.den (.int e) (.int e) = _; simp)]
      exact ⟨_, rfl, r - 1, by omega, 3, by omega, rfl⟩
    · rw [wp_T _ _ _ (by show F2.ilt.den (.int 3) (.int 6) = _; simp), wp_guard]
      refine ⟨by show F2.ile.den (.int 0) (.int 3) = _; simp, ?_⟩
      rw [wp_guard]
      refine ⟨by show F2.ilt.den (.int 3) (.int 6) = _; simp, ?_⟩
      rw [wp_call]
      refine get_implDecode t3 (by first | omega | (simp; omega)) fun y e hd => ⟨rfl, ?_⟩
      rw [wp_call]
      refine get_refDecode t3 (by first | omega | (simp; omega)) fun y' e' hd' => ⟨rfl, ?_⟩
      obtain ⟨rfl, rfl⟩ := hd.one hd'
      simp only [En.d, List.cons_append, List.nil_append]
      rw [wp_F _ _ _ (by show F2.dne.den (.rows [y.d]) (.rows [y.d]) = _; simp [En.d])]
      rw [wp_F _ _ _ (by show F2.ine.den (.int e) (.int e) = _; simp)]
      exact ⟨_, rfl, r - 1, by omega, 4, by omega, rfl⟩
    · rw [wp_T _ _ _ (by show F2.ilt.den (.int 4) (.int 6) = _; simp), wp_guard]
      refine ⟨by show F2.ile.den (.int 0) (.int 4) = _; simp, ?_⟩
      rw [wp_guard]
      refine ⟨by show F2.ilt.den (.int 4) (.int 6) = _; simp, ?_⟩
      rw [wp_call]
      refine get_implDecode (encS x ++ s) (by first | omega | (simp; omega)) fun y e hd => ⟨rfl, ?_⟩
      rw [wp_call]
      refine get_refDecode (encS x ++ s) (by first | omega | (simp; omega)) fun y' e' hd' => ⟨rfl, ?_⟩
      obtain ⟨rfl, rfl⟩ := hd.one hd'
      simp only [En.d, List.cons_append, List.nil_append]
      rw [wp_F _ _ _ (by show F2.dne.den (.rows [y.d]) (.rows [y.d]) = _; simp [En.d])]
      rw [wp_F _ _ _ (by show F2.ine.den (.int e) (.int e) = _; simp)]
      exact ⟨_, rfl, r - 1, by omega, 5, by omega, rfl⟩
    · rw [wp_T _ _ _ (by show F2.ilt.den (.int 5) (.int 6) = _; simp), wp_guard]
      refine ⟨by show F2.ile.den (.int 0) (.int 5) = _; simp, ?_⟩
      rw [wp_guard]
      refine ⟨by show F2.ilt.den (.int 5) (.int 6) = _; simp, ?_⟩
      rw [wp_call]
      refine get_implDecode ((encS x).take n) (by first | omega | (simp; omega)) fun y e hd => ⟨rfl, ?_⟩
      rw [wp_call]
      refine get_refDecode ((encS x).take n) (by first | omega | (simp; omega)) fun y' e' hd' => ⟨rfl, ?_⟩
      obtain ⟨rfl, rfl⟩ := hd.one hd'
      simp only [En.d, List.cons_append, List.nil_append]
      rw [wp_F _ _ _ (by show F2.dne.den (.rows [y.d]) (.rows [y.d]) = _; simp [En.d])]
      rw [wp_F _ _ _ (by show F2.ine.den (.int e) (.int e) = _; simp)]
      exact ⟨_, rfl, r - 1, by omega, 6, by omega, rfl⟩
    · rw [wp_F _ _ _ (by show F2.ilt.den (.int 6) (.int 6) = _; simp)]
      rfl
  · exact ⟨_, rfl, 6, 0, by omega, rfl⟩
end Go.Proofs.Ytdjbjfmgdagcgaa
