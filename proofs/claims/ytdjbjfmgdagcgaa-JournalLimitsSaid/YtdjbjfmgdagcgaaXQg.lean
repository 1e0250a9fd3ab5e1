/- Choices (pagemenddraw.Codes): any value in range. -/
import Derived.Test.YtdjbjfmgdagcgaaXQd
namespace Go.Proofs.Ytdjbjfmgdagcgaa
open Go.Fw Go.Crc
set_option maxRecDepth 100000
set_option linter.unusedVariables false
set_option linter.unusedSimpArgs false
/-- Codes: the numbers are bytes, the place is not behind the last one. -/
def CO (l : List (List D)) (a : Int) : Prop := l.length ≤ 140737488351232 ∧ 0 ≤ a ∧ a ≤ l.length ∧ ∀ r ∈ l, ∃ x : Int, r = [.int x] ∧ 0 ≤ x ∧ x < 256
theorem CO.at {l : List (List D)} {a : Int} (h : CO l a) (ha : a < l.length) : ∃ x : Int, ∃ h : a.toNat < l.length, l[a.toNat] = [.int x] ∧ 0 ≤ x ∧ x < 256 := by
  obtain ⟨_, h0, _, hr⟩ := h
  have hl : a.toNat < l.length := by omega
  obtain ⟨x, hx, h1⟩ := hr _ (List.getElem_mem hl)
  exact ⟨x, hl, hx, h1⟩
theorem CO.next {l : List (List D)} {a : Int} (h : CO l a) (ha : a < l.length) : CO l (a + 1) := ⟨h.1, by have := h.2.1; omega, by omega, h.2.2.2⟩
theorem get_next0 (l : List (List D)) (a n : Int) (hc : CO l a) (hn : n ≤ 256) {Q : List D → Prop}
    (h : ∀ x a' : Int, 0 ≤ x → x < 256 → (1 ≤ n → x < n) → (n < 1 → x = 0) → CO l a' → Q [.int x, .rows l, .int a']) : Gt 30 [.rows l, .int a, .int n] Q := by
  refine get rfl ?_
  have h0 := hc.2.1
  have h1 := hc.1
  by_cases h2 : (l.length : Int) ≤ a
  · simpa [t30, h2] using h 0 a (by omega) (by omega) (by omega) (by omega) hc
  by_cases h3 : n < 1
  · simpa [t30, h2, h3] using h 0 a (by omega) (by omega) (by omega) (by omega) hc
  obtain ⟨x, hl, hx, hx0, hx1⟩ := hc.at (by omega)
  have e1 : IntKind.i64.wrap x = x := wi (by omega)
  have e2 : IntKind.i64.wrap (a + 1) = a + 1 := wi (by omega)
  have e3 := Int.tmod_eq_emod_of_nonneg hx0 (b := n)
  have e4 := Int.emod_nonneg x (b := n) (by omega)
  have e5 := Int.emod_lt_of_pos x (b := n) (by omega)
  have := h (x.tmod n) (a + 1) (by omega) (by omega) (by omega) (by omega) (hc.next (by omega))
  simp [t30, h2, h3, show ¬ 256 < n by omega, hx, e1, e2, hl, show a < l.length by omega, h0, show n ≠ 0 by omega, this]
theorem get_next (l : List (List D)) (a n : Int) (hc : CO l a) {Q : List D → Prop}
    (h : ∀ x a' : Int, 0 ≤ x → x < 65536 → (1 ≤ n → x < n) → (n < 1 → x = 0) → CO l a' → Q [.int x, .rows l, .int a']) : Gt 30 [.rows l, .int a, .int n] Q := by
  by_cases hn : n ≤ 256
  · exact get_next0 l a n hc hn fun x a' h0 h1 h2 h3 h4 => h x a' h0 (by omega) h2 h3 h4
  refine get rfl ?_
  have h0 := hc.2.1
  have h1 := hc.1
  by_cases h2 : (l.length : Int) ≤ a
  · simpa [t30, h2] using h 0 a (by omega) (by omega) (by omega) (by omega) hc
  obtain ⟨x, hl, hx, hx0, hx1⟩ := hc.at (by omega)
  have e1 : IntKind.i64.wrap x = x := wi (by omega)
  have e2 : IntKind.i64.wrap (a + 1) = a + 1 := wi (by omega)
  simp [t30, h2, show ¬ n < 1 by omega, show 256 < n by omega, hx, e1, e2, hl, show a < l.length by omega, h0, show n ≠ 0 by omega]
  refine get_next0 l (a + 1) 256 (hc.next (by omega)) (by omega) fun y a' h3 h4 _ _ h5 => ?_
  have e3 : IntKind.i64.wrap (256 * x) = 256 * x := wi (by omega)
  have e4 : IntKind.i64.wrap (256 * x + y) = 256 * x + y := wi (by omega)
  have e5 := Int.tmod_eq_emod_of_nonneg (a := 256 * x + y) (by omega) (b := n)
  have e6 := Int.emod_nonneg (256 * x + y) (b := n) (by omega)
  have e7 := Int.emod_lt_of_pos (256 * x + y) (b := n) (by omega)
  have e8 : (256 * x + y) % n ≤ 256 * x + y := by
    rcases Int.lt_or_le (256 * x + y) n with h | h
    · rw [Int.emod_eq_of_lt (by omega) h]; omega
    · omega
  have := h ((256 * x + y).tmod n) a' (by omega) (by omega) (by omega) (by omega) h5
  simp [e3, e4, show n ≠ 0 by omega, this]
theorem CO.take {l : List (List D)} {a : Int} (h : CO l a) (k : Nat) : CO (l.take k) 0 := ⟨by have := h.1; simp; omega, by omega, by simp, fun r hr => h.2.2.2 r (List.mem_of_mem_take hr)⟩
theorem get_new (l : List (List D)) (k : Int) (hc : CO l 0) (hk : 0 ≤ k) {Q : List D → Prop} (h : ∀ m, CO m 0 → Q [.rows m, .int 0]) : Gt 27 [.rows l, .int k] Q := by
  refine get rfl ?_
  by_cases h1 : k < l.length
  · have := h (l.take k.toNat) (hc.take _)
    simp [t27, h1, hk, show k ≤ l.length by omega, this]
  · have := h l hc
    simp [t27, h1, this]
/-- A string given to the choices comes back within one byte. -/
theorem get_spoilt (l : List (List D)) (a : Int) (s : List UInt8) (hc : CO l a) (hs : s.length + 1 ≤ 140737488351232) {Q : List D → Prop}
    (h : ∀ t a', t.length ≤ s.length + 1 → CO l a' → Q [.str t, .rows l, .int a']) : Gt 29 [.rows l, .int a, .str s] Q := by
  refine get rfl ?_
  by_cases h0 : s = []
  · subst h0
    simp [t29]
    refine get_next l a 256 hc fun x a' h1 h2 h3 h4 h5 => ?_
    refine ⟨rfl, ?_⟩
    exact h _ a' (by simp) h5
  have hlen : 0 < s.length := List.length_pos_iff.2 h0
  simp [t29, show ¬ s.length = 0 by omega, h0]
  refine get_next l a s.length hc fun k b hk0 hk1 hk2 hk3 hb => ?_
  refine ⟨rfl, ?_⟩
  refine get_next l b 4 hb fun c b2 hc0 hc1 hc2 hc3 hb2 => ?_
  refine ⟨rfl, ?_⟩
  obtain ⟨k, rfl⟩ := Int.eq_ofNat_of_zero_le hk0
  have hk : k < s.length := by omega
  have ek : IntKind.i64.wrap ((k : Int) + 1) = k + 1 := wi (by omega)
  by_cases h1 : c = 0
  · have e1 : (s.length - (k + 1) : Nat) = s.length - k - 1 := by omega
    have hmin : min k s.length = k := by omega
    have ew : IntKind.i64.wrap ((k : Int) + ((s.length - (k + 1) : Nat) : Int)) = s.length - 1 := by rw [wi (by omega)]; omega
    simp [h1, ek]
    rw [hmin, ew]
    exact ⟨by omega, by omega, by omega, by omega, by omega, by omega, h _ b2 (by simp; omega) hb2⟩
  by_cases h2 : c = 1
  · have ew : IntKind.i64.wrap ((s.length : Int) + 1) = s.length + 1 := wi (by omega)
    simp [h2]
    refine get_next l b2 256 hb2 fun x a' h1 h2 h3 h4 h5 => ?_
    refine ⟨rfl, ?_⟩
    simp [ew]
    exact ⟨by omega, by omega, h _ a' (by simp) h5⟩
  simp [h1, h2]
  refine ⟨by omega, by omega, ?_⟩
  refine get_next l b2 255 hb2 fun x a' h3 h4 h5 h6 h7 => ?_
  refine ⟨rfl, ?_⟩
  have hmin : min k s.length = k := by omega
  simp [ek]
  rw [hmin]
  have ew : IntKind.i64.wrap ((k : Int) + 1 + ((s.length - (k + 1) : Nat) : Int)) = s.length := by rw [wi (by omega)]; omega
  rw [ek, ew]
  exact ⟨by omega, by omega, by omega, by omega, by omega, by omega, by omega, h _ a' (by simp; omega) h7⟩
end Go.Proofs.Ytdjbjfmgdagcgaa
