/- The statement JournalLimits over trees. -/
import Derived.Test.YtdjbjfmgdagcgaaXQk
namespace Go.Proofs.Ytdjbjfmgdagcgaa
open Go.Fw Go.Crc
set_option maxRecDepth 100000
set_option linter.unusedVariables false
set_option linter.unusedSimpArgs false
section
variable {C : Cx} {T : Nat → Option Tree} {nat : Vt} {js : List (List D → Prop)} {ρ : List D} {Q : List D → Prop}
theorem wp_T6 (c : SExp) (a b : Tree) (h : c.eval ρ = .bool true) : WP C T nat js (.ite c a b) ρ Q = WP C T nat js a ρ Q := by rw [wp_ite, h]; simp
theorem wp_F6 (c : SExp) (a b : Tree) (h : c.eval ρ = .bool false) : WP C T nat js (.ite c a b) ρ Q = WP C T nat js b ρ Q := by rw [wp_ite, h]; simp
end
/-- Entries whose numbers go on from one, all of them valid. -/
def VL (F : Int) (rows : List (List D)) : Prop := ∀ (i : Nat) (r : List D), rows[i]? = some r → ∃ e : En, r = e.d ∧ e.lsn = F + i ∧ validP e
def LogOk (F : Int) (rows : List (List D)) (d : Int) : Prop := 1 ≤ F ∧ F ≤ 1099511627776 ∧ rows.length ≤ 4096 ∧ F - 1 ≤ d ∧ d ≤ F + rows.length - 1 ∧ VL F rows
theorem get_end (F : Int) (rows : List (List D)) (d : Int) (hF : 1 ≤ F ∧ F ≤ 1099511627776) (hl : rows.length ≤ 4096) {Q : List D → Prop} (h : Q [.int (F + rows.length - 1)]) : Gt 87 [.int F, .rows rows, .int d] Q := by
  refine get rfl ?_
  have e1 : IntKind.i64.wrap (F + rows.length) = F + rows.length := wi (by omega)
  have e2 : IntKind.i64.wrap (F + rows.length - 1) = F + rows.length - 1 := wi (by omega)
  simpa [t87, e1, e2] using h
theorem get_logValid (F : Int) (rows : List (List D)) (d : Int) (hL : LogOk F rows d) {Q : List D → Prop} (h : Q [.bool true]) : Gt 86 [.int F, .rows rows, .int d] Q := by
  obtain ⟨h1, h2, h3, h4, h5, hv⟩ := hL
  refine get rfl ?_
  have e1 : IntKind.i64.wrap (F - 1) = F - 1 := wi (by omega)
  simp [t86, show ¬ F < 1 by omega, show ¬ 1099511627776 < F by omega, show ¬ (4096 : Int) < rows.length by omega, show ¬ d < F - 1 by omega, e1]
  refine get_end F rows d ⟨h1, h2⟩ h3 ⟨rfl, ?_⟩
  simp [show ¬ F + rows.length - 1 < d by omega]
  refine wp_loop_rule (fun r ws => ∃ i : Nat, r + i = rows.length ∧ ws = [.int i]) ?_ ?_
  · rintro r ws ⟨i, hi, rfl⟩
    have ew : IntKind.i64.wrap ((i : Int) + 1) = i + 1 := wi (by omega)
    have ew2 : IntKind.i64.wrap (F + i) = F + i := wi (by omega)
    by_cases hlt : i < rows.length
    · obtain ⟨e, he, hn, hve⟩ := hv i _ (List.getElem?_eq_getElem hlt)
      simp [hlt, he, En.d, hn, ew2]
      rw [← hn]
      refine get_implValid e fun r1 hr1 => ⟨rfl, ?_⟩
      obtain rfl : r1 = true := hr1.2 hve
      simp [ew]
      exact ⟨r - 1, by omega, i + 1, by omega, by omega⟩
    · simp [hlt]
      exact h
  · simp
    exact ⟨rows.length, 0, by omega, rfl⟩
theorem get_clip (rows : List (List D)) {Q : List D → Prop} (h : Q [.rows rows]) : Gt 88 [.rows rows] Q := by
  refine get rfl ?_
  simpa [t88] using h
theorem get_cloneE (rows : List (List D)) (hl : rows.length ≤ 5000) {Q : List D → Prop} (h : Q [.rows rows]) : Gt 89 [.rows rows] Q := by
  refine get rfl ?_
  by_cases h0 : rows = []
  · subst h0
    simp only [t89]
    rw [wp_T6 _ _ _ (by show F2.ieq.den (.int 0) (.int 0) = _; simp)]
    refine ⟨[.rows []], h, fun b => ?_⟩
    cases b <;> simp
  · have : ¬ (rows.length : Int) = 0 := by
      intro hh
      exact h0 (List.eq_nil_of_length_eq_zero (by omega))
    simp [t89, h0]
    exact ⟨by omega, h⟩
/-- An entry that is appended. -/
theorem get_append (F : Int) (rows : List (List D)) (d : Int) (e : En) (hL : LogOk F rows d) {Q : List D → Prop}
    (h0 : (rows.length = 4096 ∨ 1099511627776 < F + rows.length) → Q [.int 0, .rows [], .int 0, .int 0, .int 21])
    (h1 : rows.length ≠ 4096 → F + rows.length ≤ 1099511627776 → validP { e with lsn := F + rows.length } ∧ Q [.int F, .rows (rows ++ [En.d { e with lsn := F + rows.length }]), .int d, .int (F + rows.length), .int 0]) :
    Gt 50 ([.int F, .rows rows, .int d] ++ e.d) Q := by
  have hL' := hL
  obtain ⟨g1, g2, g3, g4, g5, _⟩ := hL'
  refine get rfl ?_
  simp only [t50, wp_call]
  refine get_logValid F rows d hL ⟨rfl, ?_⟩
  rw [wp_F6 _ _ _ rfl, wp_call]
  refine get_end F rows d ⟨g1, g2⟩ g3 ⟨rfl, ?_⟩
  have ew : IntKind.i64.wrap (F + rows.length) = F + rows.length := wi (by omega)
  by_cases hn : rows.length = 4096
  · simp [En.d, hn]
    exact h0 (.inl hn)
  by_cases hm : 1099511627776 < F + rows.length
  · have hn' : ¬ (rows.length : Int) = 4096 := by omega
    simp [En.d, hn', ew, hm]
    exact h0 (.inr hm)
  obtain ⟨hv, hq⟩ := h1 hn (by omega)
  have hn' : ¬ (rows.length : Int) = 4096 := by omega
  simp [En.d, hn', ew, hm]
  refine get_implValid { e with lsn := F + rows.length } fun r hr => ⟨rfl, ?_⟩
  obtain rfl : r = true := hr.2 hv
  simp
  refine get_clip rows ⟨rfl, ?_⟩
  simp [ew]
  refine ⟨?_, by omega, hq⟩
  split <;> omega
theorem get_force (F : Int) (rows : List (List D)) (d n : Int) (hL : LogOk F rows d) (hn : n ≤ F + rows.length - 1) {Q : List D → Prop} (h : Q [.int F, .rows rows, .int (if d < n then n else d), .int 0]) : Gt 51 [.int F, .rows rows, .int d, .int n] Q := by
  obtain ⟨g1, g2, g3, g4, g5, _⟩ := id hL
  refine get rfl ?_
  simp only [t51, wp_call]
  refine get_logValid F rows d hL ⟨rfl, ?_⟩
  rw [wp_F6 _ _ _ rfl, wp_call]
  refine get_end F rows d ⟨g1, g2⟩ g3 ⟨rfl, ?_⟩
  rw [wp_F6 _ _ _ (by show F2.igt.den (.int n) (.int (F + rows.length - 1)) = _; simp; omega)]
  exact h
theorem get_cut (F : Int) (rows : List (List D)) (d n : Int) (hL : LogOk F rows d) (h1 : F ≤ n) (h2 : n ≤ F + rows.length) (h3 : n ≤ 1099511627776) (h4 : n - 1 ≤ d) {Q : List D → Prop} (h : Q [.int n, .rows (rows.drop (n - F).toNat), .int d, .int 0]) : Gt 52 [.int F, .rows rows, .int d, .int n] Q := by
  obtain ⟨g1, g2, g3, g4, g5, _⟩ := id hL
  refine get rfl ?_
  simp only [t52, wp_call]
  refine get_logValid F rows d hL ⟨rfl, ?_⟩
  rw [wp_F6 _ _ _ rfl]
  rw [wp_F6 _ _ _ (by show F2.ilt.den (.int n) (.int F) = _; simp; omega), wp_call]
  refine get_end F rows d ⟨g1, g2⟩ g3 ⟨rfl, ?_⟩
  have e1 : IntKind.i64.wrap (F + rows.length) = F + rows.length := wi (by omega)
  have e2 : IntKind.i64.wrap (n - 1) = n - 1 := wi (by omega)
  have e3 : IntKind.i64.wrap (n - F) = n - F := wi (by omega)
  simp [e1, e2, e3, show ¬ F + (rows.length : Int) < n by omega, show ¬ (1099511627776 : Int) < n by omega, show ¬ d < n - 1 by omega]
  refine ⟨by omega, by omega, ?_⟩
  refine get_cloneE _ (by simp; omega) ⟨rfl, ?_⟩
  exact h
theorem get_last (F : Int) (rows : List (List D)) (d : Int) (hL : LogOk F rows d) {Q : List D → Prop} (h : Q [.int (F + rows.length - 1)]) : Gt 84 [.int F, .rows rows, .int d] Q := by
  obtain ⟨g1, g2, g3, g4, g5, _⟩ := id hL
  refine get rfl ?_
  simp only [t84, wp_call]
  refine get_logValid F rows d hL ⟨rfl, ?_⟩
  rw [wp_F6 _ _ _ rfl, wp_call]
  refine get_end F rows d ⟨g1, g2⟩ g3 ⟨rfl, ?_⟩
  exact h
/-- A note. -/
def note (k : Int) : En := ⟨k, 8, 0, 0, 0, 0, 0, 0, false, [], false, [], []⟩
theorem note_ok {k : Int} (h : 1 ≤ k ∧ k ≤ 1099511627776) : validP (note k) := by
  simp [validP, shapeP, noneP, befP, note]
  omega
def notes (F : Int) (n : Nat) : List (List D) := (List.range n).map fun j : Nat => (note (F + j)).d
theorem notes_len (F : Int) (n : Nat) : (notes F n).length = n := by simp [notes]
theorem notes_succ (F : Int) (n : Nat) : notes F (n + 1) = notes F n ++ [(note (F + n)).d] := by simp [notes, List.range_succ]
theorem notes_vl (F : Int) (n : Nat) (h : 1 ≤ F ∧ F + n ≤ 1099511627777) : VL F (notes F n) := by
  intro i r hr
  rw [notes, List.getElem?_map, Option.map_eq_some_iff] at hr
  obtain ⟨j, hj, rfl⟩ := hr
  obtain ⟨hl, rfl⟩ := List.getElem?_eq_some_iff.1 hj
  simp at hl ⊢
  exact ⟨_, rfl, rfl, note_ok (by omega)⟩
theorem VL.drop1 {F : Int} {rows : List (List D)} (h : VL F rows) : VL (F + 1) (rows.drop 1) := by
  intro i r hr
  rw [List.getElem?_drop] at hr
  obtain ⟨e, h1, h2, h3⟩ := h _ _ hr
  exact ⟨e, h1, by rw [h2]; omega, h3⟩
theorem get_awake6 {Q : List D → Prop} (h : Q [.bool true]) : Gt 49 [] Q := by
  refine get rfl ?_
  simp only [t49, wp_call]
  have hnew : Gt 83 [] fun zs => zs = [.int 1, .rows [], .int 0] := get rfl (by simp [t83])
  obtain ⟨zs, hz, rfl⟩ := hnew
  refine ⟨_, hz, rfl, ?_⟩
  have hL : LogOk 1 [] 0 := ⟨by omega, by omega, by simp, by omega, by simp, fun i r hr => by simp at hr⟩
  have hv : validP ⟨1, 8, 0, 0, 0, 0, 0, 0, false, [], false, [], [120]⟩ := by simp [validP, shapeP, noneP, befP]
  refine get_append 1 [] 0 ⟨0, 8, 0, 0, 0, 0, 0, 0, false, [], false, [], [120]⟩ hL (fun hh => by simp at hh) fun _ _ => ⟨hv, rfl, ?_⟩
  rw [wp_T6 _ _ _ rfl, wp_T6 _ _ _ rfl, wp_call]
  refine get_last 1 _ 0 ⟨by omega, by omega, by simp, by omega, by simp, fun i r hr => ?_⟩ ⟨rfl, ?_⟩
  · cases i with
    | zero => simp at hr; exact ⟨_, hr.symm, rfl, hv⟩
    | succ i => simp at hr
  rw [wp_T6 _ _ _ rfl, wp_call]
  refine ⟨_, hz, rfl, ?_⟩
  rw [wp_call]
  have hb : Gt 85 [.int 1, .rows [], .int 0] fun zs => ∃ s : List UInt8, s.length = 20 ∧ zs = [.str s] := by
    refine get rfl ?_
    simp only [t85, wp_call]
    refine get_logValid 1 [] 0 hL ⟨rfl, ?_⟩
    rw [wp_F6 _ _ _ rfl, wp_call]
    have hh : Gt 101 [.int 1, .rows [], .int 0] fun zs => zs = [.str (frameS (putS [80, 77, 76, 71] 1 8))] := by
      refine get rfl ?_
      simp only [t101, wp_call]
      refine get_put _ 1 8 (by simp) ⟨rfl, ?_⟩
      exact get_codecFrame _ (by decide) ⟨rfl, rfl⟩
    obtain ⟨zs, hz, rfl⟩ := hh
    refine ⟨_, hz, rfl, ?_⟩
    rw [wp_call]
    refine get_frames ⟨rfl, ?_⟩
    have hl : (frameS (putS [80, 77, 76, 71] 1 8)).length = 20 := by kernel_rfl
    have ew : IntKind.i64.wrap 20 = 20 := rfl
    simp [hl, ew]
  obtain ⟨zs, hz, s, hs, rfl⟩ := hb
  refine ⟨_, hz, rfl, ?_⟩
  show Q [F2.ieq.den (.int s.length) (.int 20)]
  simpa [hs] using h
theorem law_limits (xs : List D) (h : DTs K [.int .u8, .bool] xs) : Gt 15 xs (· = [.bool true]) := by
  obtain ⟨_, _, rfl, h0, h⟩ := dts_cons h
  obtain ⟨_, _, rfl, h1, h⟩ := dts_cons h
  obtain rfl := dts_nil h
  obtain ⟨f, rfl, hf⟩ := dt_int h0
  have hf := u8b hf
  obtain ⟨hg, rfl⟩ := dt_bool h1
  clear h0 h h1
  have e1 := Int.tmod_eq_emod_of_nonneg hf.1 (b := 3)
  have ef : IntKind.i64.wrap f = f := wi (by omega)
  obtain ⟨n, hn, hn0, hn1⟩ : ∃ n : Nat, 4096 - f.tmod 3 = n ∧ 4094 ≤ n ∧ n ≤ 4096 := ⟨(4096 - f.tmod 3).toNat, by omega, by omega, by omega⟩
  have en : IntKind.i64.wrap (4096 - f.tmod 3) = n := by rw [hn]; exact wi (by omega)
  refine get rfl ?_
  simp only [t15, wp_call]
  refine get_awake6 ⟨rfl, ?_⟩
  rw [wp_F6 _ _ _ rfl]
  refine wp_loop_rule (fun r ws => ∃ F : Int, ws = [.int F, .int 0] ∧ F = if hg = true then 1099511627777 - (n : Int) else 1) ?_ ?_
  · rintro r ws ⟨F, rfl, hF⟩
    have hF1 : 1 ≤ F ∧ F + n ≤ 1099511627777 := by rw [hF]; split <;> omega
    refine wp_loop_rule (fun r ws => ∃ i : Nat, r + i = n ∧ ws = [.int i, .rows (notes F i)]) ?_ ?_
    · rintro r ws ⟨i, hi, rfl⟩
      have ew : IntKind.i64.wrap ((i : Int) + 1) = i + 1 := wi (by omega)
      have ew2 : IntKind.i64.wrap (F + i) = F + i := wi (by omega)
      by_cases hlt : (i : Int) < n
      · simp [ef, en, hlt, ew, ew2, notes_len]
        refine ⟨by omega, r - 1, by omega, i + 1, by omega, by omega, ?_⟩
        rw [notes_succ]
        rfl
      · have : i = n := by omega
        subst this
        have ed : IntKind.i64.wrap (F - 1) = F - 1 := wi (by omega)
        have eF1 : IntKind.i64.wrap (F + 1) = F + 1 := wi (by omega)
        have hFF : F - 1 < F := by omega
        have hd1 : ((notes F i).tail.length : Int) = i - 1 := by rw [List.length_tail, notes_len]; omega
        have ei : IntKind.i64.wrap ((i : Int) - 1) = i - 1 := wi (by omega)
        have hc : ((i - 1 : Nat) : Int) = i - 1 := by omega
        have hcl : (((notes F i).length - 1 : Nat) : Int) = i - 1 := by rw [notes_len]; omega
        have eq1 : (F + 1 - F).toNat = 1 := by omega
        have hvl := notes_vl F i (by omega)
        have hL : LogOk F (notes F i) (F - 1) := ⟨by omega, by omega, by rw [notes_len]; omega, by omega, by rw [notes_len]; omega, hvl⟩
        have hL2 : LogOk F (notes F i) F := ⟨by omega, by omega, by rw [notes_len]; omega, by omega, by rw [notes_len]; omega, hvl⟩
        have hL3 : LogOk (F + 1) (notes F i).tail F := ⟨by omega, by omega, by rw [List.length_tail, notes_len]; omega, by omega, by rw [hd1]; omega, by rw [← List.drop_one]; exact hvl.drop1⟩
        simp [ef, en, ed, eF1, hFF, notes_len, ei, hc]
        refine get_append F (notes F i) (F - 1) (note 0) hL (fun hh => ⟨rfl, ?_⟩) (fun hh1 hh2 => ⟨note_ok (by rw [notes_len] at hh2 ⊢; omega), rfl, ?_⟩)
        · rw [notes_len] at hh
          cases hg
          · simp at hF
            have h4 : i = 4096 := by omega
            subst h4
            have w97 : IntKind.i64.wrap 4097 = 4097 := rfl
            simp [ef, en, ed, eF1, hFF, notes_len, ei, hc, w97]
            refine get_force F (notes F 4096) (F - 1) F hL (by rw [notes_len]; omega) ⟨rfl, ?_⟩
            simp [ef, en, ed, eF1, hFF, notes_len, ei, hc, w97]
            refine get_cut F (notes F 4096) F (F + 1) hL2 (by omega) (by rw [notes_len]; omega) (by omega) (by omega) ⟨rfl, ?_⟩
            simp [ef, en, ed, eF1, hFF, notes_len, ei, hc, w97, eq1]
            refine get_append (F + 1) (notes F 4096).tail F (note 0) hL3 (fun hh => ⟨rfl, ?_⟩) (fun hh1 hh2 => ⟨note_ok (by rw [hd1] at hh2 ⊢; omega), rfl, ?_⟩)
            · exfalso
              rw [hd1] at hh
              omega
            · simp [ef, en, ed, eF1, hFF, notes_len, ei, hc, w97, hd1]
              try omega
          · simp at hF
            simp [ef, en, ed, eF1, hFF, notes_len, ei, hc]
            refine get_force F (notes F i) (F - 1) F hL (by rw [notes_len]; omega) ⟨rfl, ?_⟩
            simp [ef, en, ed, eF1, hFF, notes_len, ei, hc]
            refine get_cut F (notes F i) F (F + 1) hL2 (by omega) (by rw [notes_len]; omega) (by omega) (by omega) ⟨rfl, ?_⟩
            simp [ef, en, ed, eF1, hFF, notes_len, ei, hc, eq1]
            refine get_append (F + 1) (notes F i).tail F (note 0) hL3 (fun hh => ⟨rfl, ?_⟩) (fun hh1 hh2 => ⟨note_ok (by rw [hd1] at hh2 ⊢; omega), rfl, ?_⟩)
            · simp [ef, en, ed, eF1, hFF, notes_len, ei, hc, hd1]
              try omega
            · exfalso
              rw [hd1] at hh2
              omega
        · rw [notes_len] at hh1 hh2
          cases hg
          · simp at hF
            have h4 : ¬ (i : Int) = 4096 := by omega
            simp [ef, en, ed, eF1, hFF, notes_len, ei, hc, h4, ew]
            refine ⟨by omega, ?_⟩
            refine get_force F (notes F i) (F - 1) F hL (by rw [notes_len]; omega) ⟨rfl, ?_⟩
            simp [ef, en, ed, eF1, hFF, notes_len, ei, hc, h4, ew]
            refine get_cut F (notes F i) F (F + 1) hL2 (by omega) (by rw [notes_len]; omega) (by omega) (by omega) ⟨rfl, ?_⟩
            simp [ef, en, ed, eF1, hFF, notes_len, ei, hc, h4, ew, eq1]
            refine get_append (F + 1) (notes F i).tail F (note 0) hL3 (fun hh => ⟨rfl, ?_⟩) (fun hh1 hh2 => ⟨note_ok (by rw [hd1] at hh2 ⊢; omega), rfl, ?_⟩)
            · exfalso
              rw [hd1] at hh
              omega
            · simp [ef, en, ed, eF1, hFF, notes_len, ei, hc, h4, ew, hd1]
              try omega
          · exfalso
            simp at hF
            omega
    · simp
      exact ⟨n, 0, by omega, rfl, rfl⟩
  · cases hg
    · simp
    · have ez : IntKind.i64.wrap (1099511627776 - (n : Int)) = 1099511627776 - n := wi (by omega)
      have ez2 : IntKind.i64.wrap (1099511627776 - (n : Int) + 1) = 1099511627777 - n := by rw [wi (by omega)]; omega
      simp [ef, en, ez, ez2]
end Go.Proofs.Ytdjbjfmgdagcgaa
