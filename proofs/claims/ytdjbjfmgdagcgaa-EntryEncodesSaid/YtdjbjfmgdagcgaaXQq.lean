/- The statements EntryFields and EntryEncodes over trees. -/
import Derived.Test.YtdjbjfmgdagcgaaXQp
namespace Go.Proofs.Ytdjbjfmgdagcgaa
open Go.Fw Go.Crc
set_option maxRecDepth 100000
set_option linter.unusedVariables false
set_option linter.unusedSimpArgs false
theorem get_implChanges (e : En) {Q : List D → Prop} (h : Q [.bool (decide (e.kind = 1 ∨ e.kind = 2))]) : Gt 47 e.d Q := by
  refine get rfl ?_
  by_cases h1 : e.kind = 1 <;> simpa [t47, En.d, h1] using h
theorem get_refChanges (e : En) {Q : List D → Prop} (h : Q [.bool (decide (e.kind = 1 ∨ e.kind = 2))]) : Gt 48 e.d Q := by
  refine get rfl ?_
  by_cases h1 : e.kind = 1 <;> simpa [t48, En.d, h1] using h
theorem get_refEncode2 (e : En) {Q : List D → Prop} (h : ∀ (u : List UInt8) (k : Int), (validP e → u = encS e ∧ k = 0) → (¬ validP e → u = [] ∧ k = 12) → Q [.str u, .int k]) : Gt 39 e.d Q :=
  get_refEncode e (fun hn => h [] 12 (fun hv => absurd hv hn) fun _ => ⟨rfl, rfl⟩) fun hv => h (encS e) 0 (fun _ => ⟨rfl, rfl⟩) fun hn => absurd hv hn
theorem get_implEncode3 (e : En) {Q : List D → Prop} (h : ∀ (u : List UInt8) (k : Int), (validP e → u = encS e ∧ k = 0) → (¬ validP e → u = [] ∧ k = 12) → Q [.str u, .int k]) : Gt 43 e.d Q :=
  get_implEncode e (fun hn => h [] 12 (fun hv => absurd hv hn) fun _ => ⟨rfl, rfl⟩) fun hv => h (encS e) 0 (fun _ => ⟨rfl, rfl⟩) fun hn => absurd hv hn
theorem enc_same {e : En} {u v : List UInt8} {j k : Int} (h1 : validP e → u = encS e ∧ j = 0) (h2 : ¬ validP e → u = [] ∧ j = 12) (h3 : validP e → v = encS e ∧ k = 0) (h4 : ¬ validP e → v = [] ∧ k = 12) : v = u ∧ k = j := by
  by_cases h : validP e
  · rw [(h1 h).1, (h1 h).2, (h3 h).1, (h3 h).2]; exact ⟨rfl, rfl⟩
  · rw [(h2 h).1, (h2 h).2, (h4 h).1, (h4 h).2]; exact ⟨rfl, rfl⟩
theorem dts_en {xs : List D} (h : DTs K [.int .i64, .int .i64, .int .i64, .int .i64, .int .i64, .int .i64, .int .i64, .int .i64, .bool, .str, .bool, .str, .str] xs) : ∃ e : En, xs = e.d := by
  obtain ⟨_, _, rfl, h1, h⟩ := dts_cons h
  obtain ⟨_, _, rfl, h2, h⟩ := dts_cons h
  obtain ⟨_, _, rfl, h3, h⟩ := dts_cons h
  obtain ⟨_, _, rfl, h4, h⟩ := dts_cons h
  obtain ⟨_, _, rfl, h5, h⟩ := dts_cons h
  obtain ⟨_, _, rfl, h6, h⟩ := dts_cons h
  obtain ⟨_, _, rfl, h7, h⟩ := dts_cons h
  obtain ⟨_, _, rfl, h8, h⟩ := dts_cons h
  obtain ⟨_, _, rfl, h9, h⟩ := dts_cons h
  obtain ⟨_, _, rfl, h10, h⟩ := dts_cons h
  obtain ⟨_, _, rfl, h11, h⟩ := dts_cons h
  obtain ⟨_, _, rfl, h12, h⟩ := dts_cons h
  obtain ⟨_, _, rfl, h13, h⟩ := dts_cons h
  obtain rfl := dts_nil h
  obtain ⟨_, rfl, _⟩ := dt_int h1
  obtain ⟨_, rfl, _⟩ := dt_int h2
  obtain ⟨_, rfl, _⟩ := dt_int h3
  obtain ⟨_, rfl, _⟩ := dt_int h4
  obtain ⟨_, rfl, _⟩ := dt_int h5
  obtain ⟨_, rfl, _⟩ := dt_int h6
  obtain ⟨_, rfl, _⟩ := dt_int h7
  obtain ⟨_, rfl, _⟩ := dt_int h8
  obtain ⟨_, rfl⟩ := dt_bool h9
  obtain ⟨_, rfl, _⟩ := dt_str h10
  obtain ⟨_, rfl⟩ := dt_bool h11
  obtain ⟨_, rfl, _⟩ := dt_str h12
  obtain ⟨_, rfl, _⟩ := dt_str h13
  exact ⟨⟨_, _, _, _, _, _, _, _, _, _, _, _, _⟩, rfl⟩
set_option maxHeartbeats 16000000 in
theorem law_fields (xs : List D) (h : DTs K [.sl 5, .int .u8] xs) : Gt 13 xs (· = [.bool true]) := by
  obtain ⟨_, _, rfl, h0, h⟩ := dts_cons h
  obtain ⟨_, _, rfl, h1, h⟩ := dts_cons h
  obtain rfl := dts_nil h
  obtain ⟨l, rfl⟩ := dt_sl h0
  have hl := co_of h0
  obtain ⟨f, rfl, hf⟩ := dt_int h1
  have hf := u8b hf
  clear h0 h h1
  refine get rfl (WPn.wp ?_)
  simp only [t13, wpn_call]
  refine get_awake5 ⟨rfl, ?_⟩
  rw [wpn_F _ _ _ rfl, wpn_call]
  refine get_new l 100 hl (by omega) fun m hm => ⟨rfl, ?_⟩
  rw [wpn_call]
  refine get_entry m 0 hm fun x a hx ha => ⟨rfl, ?_⟩
  obtain ⟨h10, hv⟩ := hx
  obtain ⟨lsn, kind, tx, ptx, pp, ref, page, slot, bs, bd, az, ad, blob⟩ := x
  have hb := hv.bounds
  simp only at hb h10
  have hk : kind = 1 ∨ kind = 2 ∨ kind = 3 ∨ kind = 4 ∨ kind = 5 ∨ kind = 6 ∨ kind = 7 ∨ kind = 8 := by omega
  have hp : ¬ ptx < 0 := by omega
  have e1 := Int.tmod_eq_emod_of_nonneg hf.1 (b := 5)
  have e2 : f.tmod 5 = 0 ∨ f.tmod 5 = 1 ∨ f.tmod 5 = 2 ∨ f.tmod 5 = 3 ∨ f.tmod 5 = 4 := by omega
  clear hb
  have hv0 := hv
  simp only [En.d, List.cons_append, List.nil_append]
  rcases hk with rfl | rfl | rfl | rfl | rfl | rfl | rfl | rfl
  · simp [validP, shapeP, txP, noneP, befP] at hv0
    rcases e2 with e2 | e2 | e2 | e2 | e2
    · simp [e2, hp]
      refine get_implValid ⟨lsn, 1, tx, ptx, pp, ref, page, slot, bs, bd, az, ad, blob⟩ fun r hr => ⟨rfl, ?_⟩
      obtain rfl : r = true := hr.2 hv
      simp
      refine get_implValid ⟨_, _, _, _, _, _, _, _, _, _, _, _, _⟩ fun r1 hr1 => ⟨rfl, ?_⟩
      have hu : r1 = true := by
        simp [validP, shapeP, txP, noneP, befP] at hr1
        rw [hr1]
        try simp only [chgP, cellP] at hv0 ⊢
        grind
      simp [hu]
      refine get_refValid ⟨_, _, _, _, _, _, _, _, _, _, _, _, _⟩ fun r2 hr2 => ⟨rfl, ?_⟩
      obtain rfl : r2 = r1 := Bool.eq_iff_iff.2 (hr2.trans hr1.symm)
      simp [hu]
    · simp [e2, hp]
      refine get_implValid ⟨lsn, 1, tx, ptx, pp, ref, page, slot, bs, bd, az, ad, blob⟩ fun r hr => ⟨rfl, ?_⟩
      obtain rfl : r = true := hr.2 hv
      simp
      refine get_implValid ⟨_, _, _, _, _, _, _, _, _, _, _, _, _⟩ fun r1 hr1 => ⟨rfl, ?_⟩
      have hu : r1 = true := by
        simp [validP, shapeP, txP, noneP, befP] at hr1
        rw [hr1]
        try simp only [chgP, cellP] at hv0 ⊢
        grind
      simp [hu]
      refine get_refValid ⟨_, _, _, _, _, _, _, _, _, _, _, _, _⟩ fun r2 hr2 => ⟨rfl, ?_⟩
      obtain rfl : r2 = r1 := Bool.eq_iff_iff.2 (hr2.trans hr1.symm)
      simp [hu]
    · simp [e2, hp]
      refine get_implValid ⟨lsn, 1, tx, ptx, pp, ref, page, slot, bs, bd, az, ad, blob⟩ fun r hr => ⟨rfl, ?_⟩
      obtain rfl : r = true := hr.2 hv
      simp
      refine get_implValid ⟨_, _, _, _, _, _, _, _, _, _, _, _, _⟩ fun r1 hr1 => ⟨rfl, ?_⟩
      have hu : r1 = false := by
        simp [validP, shapeP, txP, noneP, befP] at hr1
        rw [← Bool.not_eq_true, hr1]
        try simp only [chgP, cellP] at hv0 ⊢
        grind
      simp [hu]
      refine get_refValid ⟨_, _, _, _, _, _, _, _, _, _, _, _, _⟩ fun r2 hr2 => ⟨rfl, ?_⟩
      obtain rfl : r2 = r1 := Bool.eq_iff_iff.2 (hr2.trans hr1.symm)
      simp [hu]
    · simp [e2, hp]
      refine get_implValid ⟨lsn, 1, tx, ptx, pp, ref, page, slot, bs, bd, az, ad, blob⟩ fun r hr => ⟨rfl, ?_⟩
      obtain rfl : r = true := hr.2 hv
      simp
      refine get_implValid ⟨_, _, _, _, _, _, _, _, _, _, _, _, _⟩ fun r1 hr1 => ⟨rfl, ?_⟩
      have hu : r1 = true := by
        simp [validP, shapeP, txP, noneP, befP] at hr1
        rw [hr1]
        try simp only [chgP, cellP] at hv0 ⊢
        grind
      simp [hu]
      refine get_refValid ⟨_, _, _, _, _, _, _, _, _, _, _, _, _⟩ fun r2 hr2 => ⟨rfl, ?_⟩
      obtain rfl : r2 = r1 := Bool.eq_iff_iff.2 (hr2.trans hr1.symm)
      simp [hu]
    · simp [e2, hp]
      refine get_implValid ⟨lsn, 1, tx, ptx, pp, ref, page, slot, bs, bd, az, ad, blob⟩ fun r hr => ⟨rfl, ?_⟩
      obtain rfl : r = true := hr.2 hv
      simp
      refine get_implValid ⟨_, _, _, _, _, _, _, _, _, _, _, _, _⟩ fun r1 hr1 => ⟨rfl, ?_⟩
      have hu : r1 = false := by
        simp [validP, shapeP, txP, noneP, befP] at hr1
        rw [← Bool.not_eq_true, hr1]
        try simp only [chgP, cellP] at hv0 ⊢
        grind
      simp [hu]
      refine get_refValid ⟨_, _, _, _, _, _, _, _, _, _, _, _, _⟩ fun r2 hr2 => ⟨rfl, ?_⟩
      obtain rfl : r2 = r1 := Bool.eq_iff_iff.2 (hr2.trans hr1.symm)
      simp [hu]
  · simp [validP, shapeP, txP, noneP, befP] at hv0
    rcases e2 with e2 | e2 | e2 | e2 | e2
    · simp [e2, hp]
      refine get_implValid ⟨lsn, 2, tx, ptx, pp, ref, page, slot, bs, bd, az, ad, blob⟩ fun r hr => ⟨rfl, ?_⟩
      obtain rfl : r = true := hr.2 hv
      simp
      refine get_implValid ⟨_, _, _, _, _, _, _, _, _, _, _, _, _⟩ fun r1 hr1 => ⟨rfl, ?_⟩
      have hu : r1 = true := by
        simp [validP, shapeP, txP, noneP, befP] at hr1
        rw [hr1]
        try simp only [chgP, cellP] at hv0 ⊢
        grind
      simp [hu]
      refine get_refValid ⟨_, _, _, _, _, _, _, _, _, _, _, _, _⟩ fun r2 hr2 => ⟨rfl, ?_⟩
      obtain rfl : r2 = r1 := Bool.eq_iff_iff.2 (hr2.trans hr1.symm)
      simp [hu]
    · simp [e2, hp]
      refine get_implValid ⟨lsn, 2, tx, ptx, pp, ref, page, slot, bs, bd, az, ad, blob⟩ fun r hr => ⟨rfl, ?_⟩
      obtain rfl : r = true := hr.2 hv
      simp
      refine get_implValid ⟨_, _, _, _, _, _, _, _, _, _, _, _, _⟩ fun r1 hr1 => ⟨rfl, ?_⟩
      have hu : r1 = true := by
        simp [validP, shapeP, txP, noneP, befP] at hr1
        rw [hr1]
        try simp only [chgP, cellP] at hv0 ⊢
        grind
      simp [hu]
      refine get_refValid ⟨_, _, _, _, _, _, _, _, _, _, _, _, _⟩ fun r2 hr2 => ⟨rfl, ?_⟩
      obtain rfl : r2 = r1 := Bool.eq_iff_iff.2 (hr2.trans hr1.symm)
      simp [hu]
    · simp [e2, hp]
      refine get_implValid ⟨lsn, 2, tx, ptx, pp, ref, page, slot, bs, bd, az, ad, blob⟩ fun r hr => ⟨rfl, ?_⟩
      obtain rfl : r = true := hr.2 hv
      simp
      refine get_implValid ⟨_, _, _, _, _, _, _, _, _, _, _, _, _⟩ fun r1 hr1 => ⟨rfl, ?_⟩
      have hu : r1 = false := by
        simp [validP, shapeP, txP, noneP, befP] at hr1
        rw [← Bool.not_eq_true, hr1]
        try simp only [chgP, cellP] at hv0 ⊢
        grind
      simp [hu]
      refine get_refValid ⟨_, _, _, _, _, _, _, _, _, _, _, _, _⟩ fun r2 hr2 => ⟨rfl, ?_⟩
      obtain rfl : r2 = r1 := Bool.eq_iff_iff.2 (hr2.trans hr1.symm)
      simp [hu]
    · simp [e2, hp]
      refine get_implValid ⟨lsn, 2, tx, ptx, pp, ref, page, slot, bs, bd, az, ad, blob⟩ fun r hr => ⟨rfl, ?_⟩
      obtain rfl : r = true := hr.2 hv
      simp
      refine get_implValid ⟨_, _, _, _, _, _, _, _, _, _, _, _, _⟩ fun r1 hr1 => ⟨rfl, ?_⟩
      have hu : r1 = true := by
        simp [validP, shapeP, txP, noneP, befP] at hr1
        rw [hr1]
        try simp only [chgP, cellP] at hv0 ⊢
        grind
      simp [hu]
      refine get_refValid ⟨_, _, _, _, _, _, _, _, _, _, _, _, _⟩ fun r2 hr2 => ⟨rfl, ?_⟩
      obtain rfl : r2 = r1 := Bool.eq_iff_iff.2 (hr2.trans hr1.symm)
      simp [hu]
    · simp [e2, hp]
      refine get_implValid ⟨lsn, 2, tx, ptx, pp, ref, page, slot, bs, bd, az, ad, blob⟩ fun r hr => ⟨rfl, ?_⟩
      obtain rfl : r = true := hr.2 hv
      simp
      refine get_implValid ⟨_, _, _, _, _, _, _, _, _, _, _, _, _⟩ fun r1 hr1 => ⟨rfl, ?_⟩
      have hu : r1 = false := by
        simp [validP, shapeP, txP, noneP, befP] at hr1
        rw [← Bool.not_eq_true, hr1]
        try simp only [chgP, cellP] at hv0 ⊢
        grind
      simp [hu]
      refine get_refValid ⟨_, _, _, _, _, _, _, _, _, _, _, _, _⟩ fun r2 hr2 => ⟨rfl, ?_⟩
      obtain rfl : r2 = r1 := Bool.eq_iff_iff.2 (hr2.trans hr1.symm)
      simp [hu]
  · simp [validP, shapeP, txP, noneP, befP] at hv0
    rcases e2 with e2 | e2 | e2 | e2 | e2
    · simp [e2, hp]
      refine get_implValid ⟨lsn, 3, tx, ptx, pp, ref, page, slot, bs, bd, az, ad, blob⟩ fun r hr => ⟨rfl, ?_⟩
      obtain rfl : r = true := hr.2 hv
      simp
      refine get_implValid ⟨_, _, _, _, _, _, _, _, _, _, _, _, _⟩ fun r1 hr1 => ⟨rfl, ?_⟩
      have hu : r1 = true := by
        simp [validP, shapeP, txP, noneP, befP] at hr1
        rw [hr1]
        try simp only [chgP, cellP] at hv0 ⊢
        grind
      simp [hu]
      refine get_refValid ⟨_, _, _, _, _, _, _, _, _, _, _, _, _⟩ fun r2 hr2 => ⟨rfl, ?_⟩
      obtain rfl : r2 = r1 := Bool.eq_iff_iff.2 (hr2.trans hr1.symm)
      simp [hu]
    · simp [e2, hp]
      refine get_implValid ⟨lsn, 3, tx, ptx, pp, ref, page, slot, bs, bd, az, ad, blob⟩ fun r hr => ⟨rfl, ?_⟩
      obtain rfl : r = true := hr.2 hv
      simp
      refine get_implValid ⟨_, _, _, _, _, _, _, _, _, _, _, _, _⟩ fun r1 hr1 => ⟨rfl, ?_⟩
      have hu : r1 = false := by
        simp [validP, shapeP, txP, noneP, befP] at hr1
        rw [← Bool.not_eq_true, hr1]
        try simp only [chgP, cellP] at hv0 ⊢
        grind
      simp [hu]
      refine get_refValid ⟨_, _, _, _, _, _, _, _, _, _, _, _, _⟩ fun r2 hr2 => ⟨rfl, ?_⟩
      obtain rfl : r2 = r1 := Bool.eq_iff_iff.2 (hr2.trans hr1.symm)
      simp [hu]
    · simp [e2, hp]
      refine get_implValid ⟨lsn, 3, tx, ptx, pp, ref, page, slot, bs, bd, az, ad, blob⟩ fun r hr => ⟨rfl, ?_⟩
      obtain rfl : r = true := hr.2 hv
      simp
      refine get_implValid ⟨_, _, _, _, _, _, _, _, _, _, _, _, _⟩ fun r1 hr1 => ⟨rfl, ?_⟩
      have hu : r1 = false := by
        simp [validP, shapeP, txP, noneP, befP] at hr1
        rw [← Bool.not_eq_true, hr1]
        try simp only [chgP, cellP] at hv0 ⊢
        grind
      simp [hu]
      refine get_refValid ⟨_, _, _, _, _, _, _, _, _, _, _, _, _⟩ fun r2 hr2 => ⟨rfl, ?_⟩
      obtain rfl : r2 = r1 := Bool.eq_iff_iff.2 (hr2.trans hr1.symm)
      simp [hu]
    · simp [e2, hp]
      refine get_implValid ⟨lsn, 3, tx, ptx, pp, ref, page, slot, bs, bd, az, ad, blob⟩ fun r hr => ⟨rfl, ?_⟩
      obtain rfl : r = true := hr.2 hv
      simp
      refine get_implValid ⟨_, _, _, _, _, _, _, _, _, _, _, _, _⟩ fun r1 hr1 => ⟨rfl, ?_⟩
      have hu : r1 = false := by
        simp [validP, shapeP, txP, noneP, befP] at hr1
        rw [← Bool.not_eq_true, hr1]
        try simp only [chgP, cellP] at hv0 ⊢
        grind
      simp [hu]
      refine get_refValid ⟨_, _, _, _, _, _, _, _, _, _, _, _, _⟩ fun r2 hr2 => ⟨rfl, ?_⟩
      obtain rfl : r2 = r1 := Bool.eq_iff_iff.2 (hr2.trans hr1.symm)
      simp [hu]
    · simp [e2, hp]
      refine get_implValid ⟨lsn, 3, tx, ptx, pp, ref, page, slot, bs, bd, az, ad, blob⟩ fun r hr => ⟨rfl, ?_⟩
      obtain rfl : r = true := hr.2 hv
      simp
      refine get_implValid ⟨_, _, _, _, _, _, _, _, _, _, _, _, _⟩ fun r1 hr1 => ⟨rfl, ?_⟩
      have hu : r1 = false := by
        simp [validP, shapeP, txP, noneP, befP] at hr1
        rw [← Bool.not_eq_true, hr1]
        try simp only [chgP, cellP] at hv0 ⊢
        grind
      simp [hu]
      refine get_refValid ⟨_, _, _, _, _, _, _, _, _, _, _, _, _⟩ fun r2 hr2 => ⟨rfl, ?_⟩
      obtain rfl : r2 = r1 := Bool.eq_iff_iff.2 (hr2.trans hr1.symm)
      simp [hu]
  · simp [validP, shapeP, txP, noneP, befP] at hv0
    rcases e2 with e2 | e2 | e2 | e2 | e2
    · simp [e2, hp]
      refine get_implValid ⟨lsn, 4, tx, ptx, pp, ref, page, slot, bs, bd, az, ad, blob⟩ fun r hr => ⟨rfl, ?_⟩
      obtain rfl : r = true := hr.2 hv
      simp
      refine get_implValid ⟨_, _, _, _, _, _, _, _, _, _, _, _, _⟩ fun r1 hr1 => ⟨rfl, ?_⟩
      have hu : r1 = true := by
        simp [validP, shapeP, txP, noneP, befP] at hr1
        rw [hr1]
        try simp only [chgP, cellP] at hv0 ⊢
        grind
      simp [hu]
      refine get_refValid ⟨_, _, _, _, _, _, _, _, _, _, _, _, _⟩ fun r2 hr2 => ⟨rfl, ?_⟩
      obtain rfl : r2 = r1 := Bool.eq_iff_iff.2 (hr2.trans hr1.symm)
      simp [hu]
    · simp [e2, hp]
      refine get_implValid ⟨lsn, 4, tx, ptx, pp, ref, page, slot, bs, bd, az, ad, blob⟩ fun r hr => ⟨rfl, ?_⟩
      obtain rfl : r = true := hr.2 hv
      simp
      refine get_implValid ⟨_, _, _, _, _, _, _, _, _, _, _, _, _⟩ fun r1 hr1 => ⟨rfl, ?_⟩
      have hu : r1 = false := by
        simp [validP, shapeP, txP, noneP, befP] at hr1
        rw [← Bool.not_eq_true, hr1]
        try simp only [chgP, cellP] at hv0 ⊢
        grind
      simp [hu]
      refine get_refValid ⟨_, _, _, _, _, _, _, _, _, _, _, _, _⟩ fun r2 hr2 => ⟨rfl, ?_⟩
      obtain rfl : r2 = r1 := Bool.eq_iff_iff.2 (hr2.trans hr1.symm)
      simp [hu]
    · simp [e2, hp]
      refine get_implValid ⟨lsn, 4, tx, ptx, pp, ref, page, slot, bs, bd, az, ad, blob⟩ fun r hr => ⟨rfl, ?_⟩
      obtain rfl : r = true := hr.2 hv
      simp
      refine get_implValid ⟨_, _, _, _, _, _, _, _, _, _, _, _, _⟩ fun r1 hr1 => ⟨rfl, ?_⟩
      have hu : r1 = false := by
        simp [validP, shapeP, txP, noneP, befP] at hr1
        rw [← Bool.not_eq_true, hr1]
        try simp only [chgP, cellP] at hv0 ⊢
        grind
      simp [hu]
      refine get_refValid ⟨_, _, _, _, _, _, _, _, _, _, _, _, _⟩ fun r2 hr2 => ⟨rfl, ?_⟩
      obtain rfl : r2 = r1 := Bool.eq_iff_iff.2 (hr2.trans hr1.symm)
      simp [hu]
    · simp [e2, hp]
      refine get_implValid ⟨lsn, 4, tx, ptx, pp, ref, page, slot, bs, bd, az, ad, blob⟩ fun r hr => ⟨rfl, ?_⟩
      obtain rfl : r = true := hr.2 hv
      simp
      refine get_implValid ⟨_, _, _, _, _, _, _, _, _, _, _, _, _⟩ fun r1 hr1 => ⟨rfl, ?_⟩
      have hu : r1 = false := by
        simp [validP, shapeP, txP, noneP, befP] at hr1
        rw [← Bool.not_eq_true, hr1]
        try simp only [chgP, cellP] at hv0 ⊢
        grind
      simp [hu]
      refine get_refValid ⟨_, _, _, _, _, _, _, _, _, _, _, _, _⟩ fun r2 hr2 => ⟨rfl, ?_⟩
      obtain rfl : r2 = r1 := Bool.eq_iff_iff.2 (hr2.trans hr1.symm)
      simp [hu]
    · simp [e2, hp]
      refine get_implValid ⟨lsn, 4, tx, ptx, pp, ref, page, slot, bs, bd, az, ad, blob⟩ fun r hr => ⟨rfl, ?_⟩
      obtain rfl : r = true := hr.2 hv
      simp
      refine get_implValid ⟨_, _, _, _, _, _, _, _, _, _, _, _, _⟩ fun r1 hr1 => ⟨rfl, ?_⟩
      have hu : r1 = false := by
        simp [validP, shapeP, txP, noneP, befP] at hr1
        rw [← Bool.not_eq_true, hr1]
        try simp only [chgP, cellP] at hv0 ⊢
        grind
      simp [hu]
      refine get_refValid ⟨_, _, _, _, _, _, _, _, _, _, _, _, _⟩ fun r2 hr2 => ⟨rfl, ?_⟩
      obtain rfl : r2 = r1 := Bool.eq_iff_iff.2 (hr2.trans hr1.symm)
      simp [hu]
  · simp [validP, shapeP, txP, noneP, befP] at hv0
    rcases e2 with e2 | e2 | e2 | e2 | e2
    · simp [e2, hp]
      refine get_implValid ⟨lsn, 5, tx, ptx, pp, ref, page, slot, bs, bd, az, ad, blob⟩ fun r hr => ⟨rfl, ?_⟩
      obtain rfl : r = true := hr.2 hv
      simp
      refine get_implValid ⟨_, _, _, _, _, _, _, _, _, _, _, _, _⟩ fun r1 hr1 => ⟨rfl, ?_⟩
      have hu : r1 = true := by
        simp [validP, shapeP, txP, noneP, befP] at hr1
        rw [hr1]
        try simp only [chgP, cellP] at hv0 ⊢
        grind
      simp [hu]
      refine get_refValid ⟨_, _, _, _, _, _, _, _, _, _, _, _, _⟩ fun r2 hr2 => ⟨rfl, ?_⟩
      obtain rfl : r2 = r1 := Bool.eq_iff_iff.2 (hr2.trans hr1.symm)
      simp [hu]
    · simp [e2, hp]
      refine get_implValid ⟨lsn, 5, tx, ptx, pp, ref, page, slot, bs, bd, az, ad, blob⟩ fun r hr => ⟨rfl, ?_⟩
      obtain rfl : r = true := hr.2 hv
      simp
      refine get_implValid ⟨_, _, _, _, _, _, _, _, _, _, _, _, _⟩ fun r1 hr1 => ⟨rfl, ?_⟩
      have hu : r1 = false := by
        simp [validP, shapeP, txP, noneP, befP] at hr1
        rw [← Bool.not_eq_true, hr1]
        try simp only [chgP, cellP] at hv0 ⊢
        grind
      simp [hu]
      refine get_refValid ⟨_, _, _, _, _, _, _, _, _, _, _, _, _⟩ fun r2 hr2 => ⟨rfl, ?_⟩
      obtain rfl : r2 = r1 := Bool.eq_iff_iff.2 (hr2.trans hr1.symm)
      simp [hu]
    · simp [e2, hp]
      refine get_implValid ⟨lsn, 5, tx, ptx, pp, ref, page, slot, bs, bd, az, ad, blob⟩ fun r hr => ⟨rfl, ?_⟩
      obtain rfl : r = true := hr.2 hv
      simp
      refine get_implValid ⟨_, _, _, _, _, _, _, _, _, _, _, _, _⟩ fun r1 hr1 => ⟨rfl, ?_⟩
      have hu : r1 = false := by
        simp [validP, shapeP, txP, noneP, befP] at hr1
        rw [← Bool.not_eq_true, hr1]
        try simp only [chgP, cellP] at hv0 ⊢
        grind
      simp [hu]
      refine get_refValid ⟨_, _, _, _, _, _, _, _, _, _, _, _, _⟩ fun r2 hr2 => ⟨rfl, ?_⟩
      obtain rfl : r2 = r1 := Bool.eq_iff_iff.2 (hr2.trans hr1.symm)
      simp [hu]
    · simp [e2, hp]
      refine get_implValid ⟨lsn, 5, tx, ptx, pp, ref, page, slot, bs, bd, az, ad, blob⟩ fun r hr => ⟨rfl, ?_⟩
      obtain rfl : r = true := hr.2 hv
      simp
      refine get_implValid ⟨_, _, _, _, _, _, _, _, _, _, _, _, _⟩ fun r1 hr1 => ⟨rfl, ?_⟩
      have hu : r1 = false := by
        simp [validP, shapeP, txP, noneP, befP] at hr1
        rw [← Bool.not_eq_true, hr1]
        try simp only [chgP, cellP] at hv0 ⊢
        grind
      simp [hu]
      refine get_refValid ⟨_, _, _, _, _, _, _, _, _, _, _, _, _⟩ fun r2 hr2 => ⟨rfl, ?_⟩
      obtain rfl : r2 = r1 := Bool.eq_iff_iff.2 (hr2.trans hr1.symm)
      simp [hu]
    · simp [e2, hp]
      refine get_implValid ⟨lsn, 5, tx, ptx, pp, ref, page, slot, bs, bd, az, ad, blob⟩ fun r hr => ⟨rfl, ?_⟩
      obtain rfl : r = true := hr.2 hv
      simp
      refine get_implValid ⟨_, _, _, _, _, _, _, _, _, _, _, _, _⟩ fun r1 hr1 => ⟨rfl, ?_⟩
      have hu : r1 = false := by
        simp [validP, shapeP, txP, noneP, befP] at hr1
        rw [← Bool.not_eq_true, hr1]
        try simp only [chgP, cellP] at hv0 ⊢
        grind
      simp [hu]
      refine get_refValid ⟨_, _, _, _, _, _, _, _, _, _, _, _, _⟩ fun r2 hr2 => ⟨rfl, ?_⟩
      obtain rfl : r2 = r1 := Bool.eq_iff_iff.2 (hr2.trans hr1.symm)
      simp [hu]
  · simp [validP, shapeP, txP, noneP, befP] at hv0
    rcases e2 with e2 | e2 | e2 | e2 | e2
    · simp [e2, hp]
      refine get_implValid ⟨lsn, 6, tx, ptx, pp, ref, page, slot, bs, bd, az, ad, blob⟩ fun r hr => ⟨rfl, ?_⟩
      obtain rfl : r = true := hr.2 hv
      simp
      refine get_implValid ⟨_, _, _, _, _, _, _, _, _, _, _, _, _⟩ fun r1 hr1 => ⟨rfl, ?_⟩
      have hu : r1 = false := by
        simp [validP, shapeP, txP, noneP, befP] at hr1
        rw [← Bool.not_eq_true, hr1]
        try simp only [chgP, cellP] at hv0 ⊢
        grind
      simp [hu]
      refine get_refValid ⟨_, _, _, _, _, _, _, _, _, _, _, _, _⟩ fun r2 hr2 => ⟨rfl, ?_⟩
      obtain rfl : r2 = r1 := Bool.eq_iff_iff.2 (hr2.trans hr1.symm)
      simp [hu]
    · simp [e2, hp]
      refine get_implValid ⟨lsn, 6, tx, ptx, pp, ref, page, slot, bs, bd, az, ad, blob⟩ fun r hr => ⟨rfl, ?_⟩
      obtain rfl : r = true := hr.2 hv
      simp
      refine get_implValid ⟨_, _, _, _, _, _, _, _, _, _, _, _, _⟩ fun r1 hr1 => ⟨rfl, ?_⟩
      have hu : r1 = false := by
        simp [validP, shapeP, txP, noneP, befP] at hr1
        rw [← Bool.not_eq_true, hr1]
        try simp only [chgP, cellP] at hv0 ⊢
        grind
      simp [hu]
      refine get_refValid ⟨_, _, _, _, _, _, _, _, _, _, _, _, _⟩ fun r2 hr2 => ⟨rfl, ?_⟩
      obtain rfl : r2 = r1 := Bool.eq_iff_iff.2 (hr2.trans hr1.symm)
      simp [hu]
    · simp [e2, hp]
      refine get_implValid ⟨lsn, 6, tx, ptx, pp, ref, page, slot, bs, bd, az, ad, blob⟩ fun r hr => ⟨rfl, ?_⟩
      obtain rfl : r = true := hr.2 hv
      simp
      refine get_implValid ⟨_, _, _, _, _, _, _, _, _, _, _, _, _⟩ fun r1 hr1 => ⟨rfl, ?_⟩
      have hu : r1 = true := by
        simp [validP, shapeP, txP, noneP, befP] at hr1
        rw [hr1]
        try simp only [chgP, cellP] at hv0 ⊢
        grind
      simp [hu]
      refine get_refValid ⟨_, _, _, _, _, _, _, _, _, _, _, _, _⟩ fun r2 hr2 => ⟨rfl, ?_⟩
      obtain rfl : r2 = r1 := Bool.eq_iff_iff.2 (hr2.trans hr1.symm)
      simp [hu]
    · simp [e2, hp]
      refine get_implValid ⟨lsn, 6, tx, ptx, pp, ref, page, slot, bs, bd, az, ad, blob⟩ fun r hr => ⟨rfl, ?_⟩
      obtain rfl : r = true := hr.2 hv
      simp
      refine get_implValid ⟨_, _, _, _, _, _, _, _, _, _, _, _, _⟩ fun r1 hr1 => ⟨rfl, ?_⟩
      have hu : r1 = false := by
        simp [validP, shapeP, txP, noneP, befP] at hr1
        rw [← Bool.not_eq_true, hr1]
        try simp only [chgP, cellP] at hv0 ⊢
        grind
      simp [hu]
      refine get_refValid ⟨_, _, _, _, _, _, _, _, _, _, _, _, _⟩ fun r2 hr2 => ⟨rfl, ?_⟩
      obtain rfl : r2 = r1 := Bool.eq_iff_iff.2 (hr2.trans hr1.symm)
      simp [hu]
    · simp [e2, hp]
      refine get_implValid ⟨lsn, 6, tx, ptx, pp, ref, page, slot, bs, bd, az, ad, blob⟩ fun r hr => ⟨rfl, ?_⟩
      obtain rfl : r = true := hr.2 hv
      simp
      refine get_implValid ⟨_, _, _, _, _, _, _, _, _, _, _, _, _⟩ fun r1 hr1 => ⟨rfl, ?_⟩
      have hu : r1 = false := by
        simp [validP, shapeP, txP, noneP, befP] at hr1
        rw [← Bool.not_eq_true, hr1]
        try simp only [chgP, cellP] at hv0 ⊢
        grind
      simp [hu]
      refine get_refValid ⟨_, _, _, _, _, _, _, _, _, _, _, _, _⟩ fun r2 hr2 => ⟨rfl, ?_⟩
      obtain rfl : r2 = r1 := Bool.eq_iff_iff.2 (hr2.trans hr1.symm)
      simp [hu]
  · simp [validP, shapeP, txP, noneP, befP] at hv0
    rcases e2 with e2 | e2 | e2 | e2 | e2
    · simp [e2, hp]
      refine get_implValid ⟨lsn, 7, tx, ptx, pp, ref, page, slot, bs, bd, az, ad, blob⟩ fun r hr => ⟨rfl, ?_⟩
      obtain rfl : r = true := hr.2 hv
      simp
      refine get_implValid ⟨_, _, _, _, _, _, _, _, _, _, _, _, _⟩ fun r1 hr1 => ⟨rfl, ?_⟩
      have hu : r1 = false := by
        simp [validP, shapeP, txP, noneP, befP] at hr1
        rw [← Bool.not_eq_true, hr1]
        try simp only [chgP, cellP] at hv0 ⊢
        grind
      simp [hu]
      refine get_refValid ⟨_, _, _, _, _, _, _, _, _, _, _, _, _⟩ fun r2 hr2 => ⟨rfl, ?_⟩
      obtain rfl : r2 = r1 := Bool.eq_iff_iff.2 (hr2.trans hr1.symm)
      simp [hu]
    · simp [e2, hp]
      refine get_implValid ⟨lsn, 7, tx, ptx, pp, ref, page, slot, bs, bd, az, ad, blob⟩ fun r hr => ⟨rfl, ?_⟩
      obtain rfl : r = true := hr.2 hv
      simp
      refine get_implValid ⟨_, _, _, _, _, _, _, _, _, _, _, _, _⟩ fun r1 hr1 => ⟨rfl, ?_⟩
      have hu : r1 = false := by
        simp [validP, shapeP, txP, noneP, befP] at hr1
        rw [← Bool.not_eq_true, hr1]
        try simp only [chgP, cellP] at hv0 ⊢
        grind
      simp [hu]
      refine get_refValid ⟨_, _, _, _, _, _, _, _, _, _, _, _, _⟩ fun r2 hr2 => ⟨rfl, ?_⟩
      obtain rfl : r2 = r1 := Bool.eq_iff_iff.2 (hr2.trans hr1.symm)
      simp [hu]
    · simp [e2, hp]
      refine get_implValid ⟨lsn, 7, tx, ptx, pp, ref, page, slot, bs, bd, az, ad, blob⟩ fun r hr => ⟨rfl, ?_⟩
      obtain rfl : r = true := hr.2 hv
      simp
      refine get_implValid ⟨_, _, _, _, _, _, _, _, _, _, _, _, _⟩ fun r1 hr1 => ⟨rfl, ?_⟩
      have hu : r1 = false := by
        simp [validP, shapeP, txP, noneP, befP] at hr1
        rw [← Bool.not_eq_true, hr1]
        try simp only [chgP, cellP] at hv0 ⊢
        grind
      simp [hu]
      refine get_refValid ⟨_, _, _, _, _, _, _, _, _, _, _, _, _⟩ fun r2 hr2 => ⟨rfl, ?_⟩
      obtain rfl : r2 = r1 := Bool.eq_iff_iff.2 (hr2.trans hr1.symm)
      simp [hu]
    · simp [e2, hp]
      refine get_implValid ⟨lsn, 7, tx, ptx, pp, ref, page, slot, bs, bd, az, ad, blob⟩ fun r hr => ⟨rfl, ?_⟩
      obtain rfl : r = true := hr.2 hv
      simp
      refine get_implValid ⟨_, _, _, _, _, _, _, _, _, _, _, _, _⟩ fun r1 hr1 => ⟨rfl, ?_⟩
      have hu : r1 = false := by
        simp [validP, shapeP, txP, noneP, befP] at hr1
        rw [← Bool.not_eq_true, hr1]
        try simp only [chgP, cellP] at hv0 ⊢
        grind
      simp [hu]
      refine get_refValid ⟨_, _, _, _, _, _, _, _, _, _, _, _, _⟩ fun r2 hr2 => ⟨rfl, ?_⟩
      obtain rfl : r2 = r1 := Bool.eq_iff_iff.2 (hr2.trans hr1.symm)
      simp [hu]
    · simp [e2, hp]
      refine get_implValid ⟨lsn, 7, tx, ptx, pp, ref, page, slot, bs, bd, az, ad, blob⟩ fun r hr => ⟨rfl, ?_⟩
      obtain rfl : r = true := hr.2 hv
      simp
      refine get_implValid ⟨_, _, _, _, _, _, _, _, _, _, _, _, _⟩ fun r1 hr1 => ⟨rfl, ?_⟩
      have hu : r1 = false := by
        simp [validP, shapeP, txP, noneP, befP] at hr1
        rw [← Bool.not_eq_true, hr1]
        try simp only [chgP, cellP] at hv0 ⊢
        grind
      simp [hu]
      refine get_refValid ⟨_, _, _, _, _, _, _, _, _, _, _, _, _⟩ fun r2 hr2 => ⟨rfl, ?_⟩
      obtain rfl : r2 = r1 := Bool.eq_iff_iff.2 (hr2.trans hr1.symm)
      simp [hu]
  · simp [validP, shapeP, txP, noneP, befP] at hv0
    rcases e2 with e2 | e2 | e2 | e2 | e2
    · simp [e2, hp]
      refine get_implValid ⟨lsn, 8, tx, ptx, pp, ref, page, slot, bs, bd, az, ad, blob⟩ fun r hr => ⟨rfl, ?_⟩
      obtain rfl : r = true := hr.2 hv
      simp
      refine get_implValid ⟨_, _, _, _, _, _, _, _, _, _, _, _, _⟩ fun r1 hr1 => ⟨rfl, ?_⟩
      have hu : r1 = false := by
        simp [validP, shapeP, txP, noneP, befP] at hr1
        rw [← Bool.not_eq_true, hr1]
        try simp only [chgP, cellP] at hv0 ⊢
        grind
      simp [hu]
      refine get_refValid ⟨_, _, _, _, _, _, _, _, _, _, _, _, _⟩ fun r2 hr2 => ⟨rfl, ?_⟩
      obtain rfl : r2 = r1 := Bool.eq_iff_iff.2 (hr2.trans hr1.symm)
      simp [hu]
    · simp [e2, hp]
      refine get_implValid ⟨lsn, 8, tx, ptx, pp, ref, page, slot, bs, bd, az, ad, blob⟩ fun r hr => ⟨rfl, ?_⟩
      obtain rfl : r = true := hr.2 hv
      simp
      refine get_implValid ⟨_, _, _, _, _, _, _, _, _, _, _, _, _⟩ fun r1 hr1 => ⟨rfl, ?_⟩
      have hu : r1 = false := by
        simp [validP, shapeP, txP, noneP, befP] at hr1
        rw [← Bool.not_eq_true, hr1]
        try simp only [chgP, cellP] at hv0 ⊢
        grind
      simp [hu]
      refine get_refValid ⟨_, _, _, _, _, _, _, _, _, _, _, _, _⟩ fun r2 hr2 => ⟨rfl, ?_⟩
      obtain rfl : r2 = r1 := Bool.eq_iff_iff.2 (hr2.trans hr1.symm)
      simp [hu]
    · simp [e2, hp]
      refine get_implValid ⟨lsn, 8, tx, ptx, pp, ref, page, slot, bs, bd, az, ad, blob⟩ fun r hr => ⟨rfl, ?_⟩
      obtain rfl : r = true := hr.2 hv
      simp
      refine get_implValid ⟨_, _, _, _, _, _, _, _, _, _, _, _, _⟩ fun r1 hr1 => ⟨rfl, ?_⟩
      have hu : r1 = true := by
        simp [validP, shapeP, txP, noneP, befP] at hr1
        rw [hr1]
        try simp only [chgP, cellP] at hv0 ⊢
        grind
      simp [hu]
      refine get_refValid ⟨_, _, _, _, _, _, _, _, _, _, _, _, _⟩ fun r2 hr2 => ⟨rfl, ?_⟩
      obtain rfl : r2 = r1 := Bool.eq_iff_iff.2 (hr2.trans hr1.symm)
      simp [hu]
    · simp [e2, hp]
      refine get_implValid ⟨lsn, 8, tx, ptx, pp, ref, page, slot, bs, bd, az, ad, blob⟩ fun r hr => ⟨rfl, ?_⟩
      obtain rfl : r = true := hr.2 hv
      simp
      refine get_implValid ⟨_, _, _, _, _, _, _, _, _, _, _, _, _⟩ fun r1 hr1 => ⟨rfl, ?_⟩
      have hu : r1 = false := by
        simp [validP, shapeP, txP, noneP, befP] at hr1
        rw [← Bool.not_eq_true, hr1]
        try simp only [chgP, cellP] at hv0 ⊢
        grind
      simp [hu]
      refine get_refValid ⟨_, _, _, _, _, _, _, _, _, _, _, _, _⟩ fun r2 hr2 => ⟨rfl, ?_⟩
      obtain rfl : r2 = r1 := Bool.eq_iff_iff.2 (hr2.trans hr1.symm)
      simp [hu]
    · simp [e2, hp]
      refine get_implValid ⟨lsn, 8, tx, ptx, pp, ref, page, slot, bs, bd, az, ad, blob⟩ fun r hr => ⟨rfl, ?_⟩
      obtain rfl : r = true := hr.2 hv
      simp
      refine get_implValid ⟨_, _, _, _, _, _, _, _, _, _, _, _, _⟩ fun r1 hr1 => ⟨rfl, ?_⟩
      have hu : r1 = false := by
        simp [validP, shapeP, txP, noneP, befP] at hr1
        rw [← Bool.not_eq_true, hr1]
        try simp only [chgP, cellP] at hv0 ⊢
        grind
      simp [hu]
      refine get_refValid ⟨_, _, _, _, _, _, _, _, _, _, _, _, _⟩ fun r2 hr2 => ⟨rfl, ?_⟩
      obtain rfl : r2 = r1 := Bool.eq_iff_iff.2 (hr2.trans hr1.symm)
      simp [hu]
end Go.Proofs.Ytdjbjfmgdagcgaa
