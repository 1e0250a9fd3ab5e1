/- Entries from bytes, over both trees. -/
import Derived.Test.YtdjbjfmgdagcgaaXQl
namespace Go.Proofs.Ytdjbjfmgdagcgaa
open Go.Fw Go.Crc
set_option maxRecDepth 100000
set_option linter.unusedVariables false
set_option linter.unusedSimpArgs false
section
variable {C : Cx} {T : Nat → Option Tree} {nat : Vt} {js : List (List D → Prop)} {ρ : List D} {Q : List D → Prop}
theorem wp_T (c : SExp) (a b : Tree) (h : c.eval ρ = .bool true) : WP C T nat js (.ite c a b) ρ Q = WP C T nat js a ρ Q := by rw [wp_ite, h]; simp
theorem wp_F (c : SExp) (a b : Tree) (h : c.eval ρ = .bool false) : WP C T nat js (.ite c a b) ρ Q = WP C T nat js b ρ Q := by rw [wp_ite, h]; simp
end
/-- A number that is read, the place behind it, and the first error. -/
def numR (s : List UInt8) (p : Nat × Int) (k : Nat) : Int × Nat × Int :=
  if p.2 ≠ 0 then (0, p.1, p.2) else if s.length < p.1 + k then (0, p.1, 5) else (IntKind.i64.wrap (num ((s.drop p.1).take k)), p.1 + k, 0)
def txtR (s : List UInt8) (p : Nat × Int) (n : Nat) : List UInt8 × Nat × Int :=
  if p.2 ≠ 0 then ([], p.1, p.2) else if s.length < p.1 + n then ([], p.1, 5) else ((s.drop p.1).take n, p.1 + n, 0)
def celR (s : List UInt8) (p : Nat × Int) : Bool × List UInt8 × Nat × Int :=
  let r := numR s p 1
  if r.2.2 ≠ 0 then (false, [], r.2) else if r.1 = 255 then (false, [], r.2) else if 12 < r.1 then (false, [], r.2.1, 4) else
    let t := txtR s r.2 r.1.toNat
    (true, t.1, t.2)
theorem numR_le (s : List UInt8) (p : Nat × Int) (k : Nat) (h : p.1 ≤ s.length) : (numR s p k).2.1 ≤ s.length := by
  unfold numR
  split
  · exact h
  · split
    · exact h
    · simp; omega
theorem txtR_le (s : List UInt8) (p : Nat × Int) (k : Nat) (h : p.1 ≤ s.length) : (txtR s p k).2.1 ≤ s.length := by
  unfold txtR
  split
  · exact h
  · split
    · exact h
    · simp; omega
theorem celR_le (s : List UInt8) (p : Nat × Int) (h : p.1 ≤ s.length) : (celR s p).2.2.1 ≤ s.length := by
  unfold celR
  have h1 := numR_le s p 1 h
  dsimp only
  split
  · exact h1
  · split
    · exact h1
    · split
      · exact h1
      · exact txtR_le s _ _ h1
theorem numR_range (s : List UInt8) (p : Nat × Int) (k : Nat) (hk : k ≤ 4) : 0 ≤ (numR s p k).1 ∧ (numR s p k).1 < 256 ^ k := by
  have hp : (0 : Int) < 256 ^ k := Int.pow_pos (by omega)
  unfold numR
  split
  · exact ⟨by simp, hp⟩
  · split
    · exact ⟨by simp, hp⟩
    · have h1 := num_lt ((s.drop p.1).take k)
      have h2 : ((s.drop p.1).take k).length ≤ k := by simp; omega
      have h3 : 256 ^ ((s.drop p.1).take k).length ≤ 256 ^ k := Nat.pow_le_pow_right (by omega) h2
      have h4 : (256 : Nat) ^ k ≤ 256 ^ 4 := Nat.pow_le_pow_right (by omega) hk
      rw [wi (by omega)]
      constructor
      · simp
      · have : (num ((s.drop p.1).take k) : Int) < ((256 ^ k : Nat) : Int) := by omega
        simpa using this
theorem get_implNum (s : List UInt8) (p : Nat × Int) (k : Nat) (hs : s.length ≤ 140737488351232) (hp : p.1 ≤ s.length) (hk : 1 ≤ k ∧ k ≤ 8) {Q : List D → Prop} (h : Q [.int (numR s p k).1, .str s, .int (numR s p k).2.1, .int (numR s p k).2.2]) : Gt 70 [.str s, .int p.1, .int p.2, .int k] Q := by
  refine get rfl ?_
  obtain ⟨a, e⟩ := p
  unfold numR at h
  simp only at h hp ⊢
  by_cases h1 : e = 0
  · subst h1
    simp [t70]
    refine get_codecGet s a k (by omega) (by omega) ?_
    unfold getS
    rw [if_neg (by omega)]
    by_cases h2 : s.length < a + k
    · rw [if_pos (by omega)]
      refine ⟨rfl, ?_⟩
      simpa [h2] using h
    · rw [if_neg (by omega)]
      refine ⟨rfl, ?_⟩
      have ew : IntKind.i64.wrap ((a : Int) + k) = a + k := wi (by omega)
      simpa [h2, ew] using h
  · simpa [t70, h1] using h
theorem get_refNum (s : List UInt8) (p : Nat × Int) (k : Nat) (hs : s.length ≤ 140737488351232) (hp : p.1 ≤ s.length) (hk : 1 ≤ k ∧ k ≤ 8) {Q : List D → Prop} (h : Q [.int (numR s p k).1, .str s, .int (numR s p k).2.1, .int (numR s p k).2.2]) : Gt 73 [.str s, .int p.1, .int p.2, .int k] Q := by
  refine get rfl ?_
  obtain ⟨a, e⟩ := p
  unfold numR at h
  simp only at h hp ⊢
  by_cases h1 : e = 0
  · subst h1
    simp [t73]
    refine get_refGet s a k (by omega) (by omega) ?_
    unfold getS
    rw [if_neg (by omega)]
    by_cases h2 : s.length < a + k
    · rw [if_pos (by omega)]
      refine ⟨rfl, ?_⟩
      simpa [h2] using h
    · rw [if_neg (by omega)]
      refine ⟨rfl, ?_⟩
      have ew : IntKind.i64.wrap ((a : Int) + k) = a + k := wi (by omega)
      simpa [h2, ew] using h
  · simpa [t73, h1] using h
theorem get_implText (s : List UInt8) (p : Nat × Int) (n : Nat) (hs : s.length ≤ 140737488351232) (hp : p.1 ≤ s.length) (hn : n ≤ 4294967296) {Q : List D → Prop} (h : Q [.str (txtR s p n).1, .str s, .int (txtR s p n).2.1, .int (txtR s p n).2.2]) : Gt 72 [.str s, .int p.1, .int p.2, .int n] Q := by
  refine get rfl ?_
  obtain ⟨a, e⟩ := p
  unfold txtR at h
  simp only at h hp ⊢
  by_cases h1 : e = 0
  · subst h1
    have ew1 : IntKind.i64.wrap ((s.length : Int) - a) = s.length - a := wi (by omega)
    have ew2 : IntKind.i64.wrap ((a : Int) + n) = a + n := wi (by omega)
    have ew3 : IntKind.i64.wrap (a : Int) = a := wi (by omega)
    by_cases h2 : s.length < a + n
    · have h3 : (s.length : Int) - a < n := by omega
      simpa [t72, ew1, h2, h3] using h
    · have h3 : ¬ (s.length : Int) - a < n := by omega
      have h4 : (a : Int) + n ≤ s.length := by omega
      have h5 : (0 : Int) ≤ a + n := by omega
      have e1 : ((a : Int) + n).toNat = a + n := by omega
      have e2 : List.drop a (List.take (a + n) s) = List.take n (List.drop a s) := by rw [List.drop_take]; congr 1; omega
      simp [h2] at h
      simp [t72, ew1, ew2, ew3, h3, h4, h5, e1, e2]
      exact ⟨by omega, h⟩
  · simpa [t72, h1] using h
theorem get_refText (s : List UInt8) (p : Nat × Int) (n : Nat) (hs : s.length ≤ 140737488351232) (hp : p.1 ≤ s.length) (hn : n ≤ 4294967296) {Q : List D → Prop} (h : Q [.str (txtR s p n).1, .str s, .int (txtR s p n).2.1, .int (txtR s p n).2.2]) : Gt 75 [.str s, .int p.1, .int p.2, .int n] Q := by
  refine get rfl ?_
  obtain ⟨a, e⟩ := p
  unfold txtR at h
  simp only at h hp ⊢
  by_cases h1 : e = 0
  · subst h1
    have ew1 : IntKind.i64.wrap ((s.length : Int) - a) = s.length - a := wi (by omega)
    have ew2 : IntKind.i64.wrap ((a : Int) + n) = a + n := wi (by omega)
    have ew3 : IntKind.i64.wrap (a : Int) = a := wi (by omega)
    by_cases h2 : s.length < a + n
    · have h3 : (s.length : Int) - a < n := by omega
      simpa [t75, ew1, h2, h3] using h
    · have h3 : ¬ (s.length : Int) - a < n := by omega
      have h4 : (a : Int) + n ≤ s.length := by omega
      have h5 : (0 : Int) ≤ a + n := by omega
      have e1 : ((a : Int) + n).toNat = a + n := by omega
      have e2 : List.drop a (List.take (a + n) s) = List.take n (List.drop a s) := by rw [List.drop_take]; congr 1; omega
      simp [h2] at h
      simp [t75, ew1, ew2, ew3, h3, h4, h5, e1, e2]
      exact ⟨by omega, h⟩
  · simpa [t75, h1] using h
theorem get_implCel (s : List UInt8) (p : Nat × Int) (hs : s.length ≤ 140737488351232) (hp : p.1 ≤ s.length) {Q : List D → Prop} (h : Q [.bool (celR s p).1, .str (celR s p).2.1, .str s, .int (celR s p).2.2.1, .int (celR s p).2.2.2]) : Gt 71 [.str s, .int p.1, .int p.2] Q := by
  refine get rfl ?_
  simp only [t71, wp_call]
  refine get_implNum s p 1 hs hp (by omega) ⟨rfl, ?_⟩
  have hr := numR_range s p 1 (by omega)
  have hl := numR_le s p 1 hp
  unfold celR at h
  simp only at h
  by_cases h1 : (numR s p 1).2.2 = 0
  case neg => simpa [h1] using h
  by_cases h2 : (numR s p 1).1 = 255
  · simpa [h1, h2] using h
  by_cases h3 : 12 < (numR s p 1).1
  · simpa [h1, h2, h3] using h
  simp [h1, h2, h3] at h ⊢
  obtain ⟨n, hn⟩ := Int.eq_ofNat_of_zero_le hr.1
  have e : (numR s p 1).2 = ((numR s p 1).2.1, 0) := by rw [← h1]
  rw [hn] at h ⊢
  rw [e] at h
  refine get_implText s ((numR s p 1).2.1, 0) n hs hl (by omega) ⟨rfl, ?_⟩
  simpa using h
theorem get_refCel (s : List UInt8) (p : Nat × Int) (hs : s.length ≤ 140737488351232) (hp : p.1 ≤ s.length) {Q : List D → Prop} (h : Q [.bool (celR s p).1, .str (celR s p).2.1, .str s, .int (celR s p).2.2.1, .int (celR s p).2.2.2]) : Gt 74 [.str s, .int p.1, .int p.2] Q := by
  refine get rfl ?_
  simp only [t74, wp_call]
  refine get_refNum s p 1 hs hp (by omega) ⟨rfl, ?_⟩
  have hr := numR_range s p 1 (by omega)
  have hl := numR_le s p 1 hp
  unfold celR at h
  simp only at h
  by_cases h1 : (numR s p 1).2.2 = 0
  case neg => simpa [h1] using h
  by_cases h2 : (numR s p 1).1 = 255
  · simpa [h1, h2] using h
  by_cases h3 : 12 < (numR s p 1).1
  · simpa [h1, h2, h3] using h
  simp [h1, h2, h3] at h ⊢
  obtain ⟨n, hn⟩ := Int.eq_ofNat_of_zero_le hr.1
  have e : (numR s p 1).2 = ((numR s p 1).2.1, 0) := by rw [← h1]
  rw [hn] at h ⊢
  rw [e] at h
  refine get_refText s ((numR s p 1).2.1, 0) n hs hl (by omega) ⟨rfl, ?_⟩
  simpa using h
def zeroE : En := ⟨0, 0, 0, 0, 0, 0, 0, 0, false, [], false, [], []⟩
/-- The places and errors while an entry is read. -/
def q0 : Nat × Int := (0, 0)
def r1 (s : List UInt8) : Int × Nat × Int := numR s q0 8
def q1 (s : List UInt8) : Nat × Int := (r1 s).2
def r2 (s : List UInt8) : Int × Nat × Int := numR s (q1 s) 1
def q2 (s : List UInt8) : Nat × Int := (r2 s).2
def r3 (s : List UInt8) : Int × Nat × Int := numR s (q2 s) 4
def q3 (s : List UInt8) : Nat × Int := (r3 s).2
def r4 (s : List UInt8) : Int × Nat × Int := numR s (q3 s) 8
def q4 (s : List UInt8) : Nat × Int := (r4 s).2
def r5 (s : List UInt8) : Int × Nat × Int := numR s (q4 s) 8
def q5 (s : List UInt8) : Nat × Int := (r5 s).2
def r6 (s : List UInt8) : Int × Nat × Int := numR s (q5 s) 8
def q6 (s : List UInt8) : Nat × Int := (r6 s).2
def r7 (s : List UInt8) : Int × Nat × Int := numR s (q6 s) 4
def q7 (s : List UInt8) : Nat × Int := (r7 s).2
def r8 (s : List UInt8) : Int × Nat × Int := numR s (q7 s) 1
def q8 (s : List UInt8) : Nat × Int := (r8 s).2
def r9 (s : List UInt8) : Bool × List UInt8 × Nat × Int := celR s (q8 s)
def q9 (s : List UInt8) : Nat × Int := (r9 s).2.2
def r10 (s : List UInt8) : Bool × List UInt8 × Nat × Int := celR s (q9 s)
def q10 (s : List UInt8) : Nat × Int := (r10 s).2.2
def r11 (s : List UInt8) : Int × Nat × Int := numR s (q10 s) 4
def q11 (s : List UInt8) : Nat × Int := (r11 s).2
def r12 (s : List UInt8) : List UInt8 × Nat × Int := txtR s (q11 s) (r11 s).1.toNat
def q12 (s : List UInt8) : Nat × Int := (r12 s).2
def decE (s : List UInt8) : En := ⟨(r1 s).1, (r2 s).1, (r3 s).1, (r4 s).1, (r5 s).1, (r6 s).1, (r7 s).1, (r8 s).1, (r9 s).1, (r9 s).2.1, (r10 s).1, (r10 s).2.1, (r12 s).1⟩
/-- What bytes mean as an entry, or the error. -/
def DecP (s : List UInt8) (x : En) (e : Int) : Prop :=
  ((q12 s).2 ≠ 0 ∧ x = zeroE ∧ e = (q12 s).2) ∨ ((q12 s).2 = 0 ∧ (q12 s).1 ≠ s.length ∧ x = zeroE ∧ e = 4) ∨ ((q12 s).2 = 0 ∧ (q12 s).1 = s.length ∧ ¬ validP (decE s) ∧ x = zeroE ∧ e = 12) ∨ ((q12 s).2 = 0 ∧ (q12 s).1 = s.length ∧ validP (decE s) ∧ x = decE s ∧ e = 0)
theorem DecP.one {s : List UInt8} {x y : En} {e f : Int} (h : DecP s x e) (h' : DecP s y f) : x = y ∧ e = f := by
  unfold DecP at h h'
  grind
theorem q1_le (s : List UInt8) : (q1 s).1 ≤ s.length := numR_le s _ _ (by simp [q0])
theorem q2_le (s : List UInt8) : (q2 s).1 ≤ s.length := numR_le s _ _ (q1_le s)
theorem q3_le (s : List UInt8) : (q3 s).1 ≤ s.length := numR_le s _ _ (q2_le s)
theorem q4_le (s : List UInt8) : (q4 s).1 ≤ s.length := numR_le s _ _ (q3_le s)
theorem q5_le (s : List UInt8) : (q5 s).1 ≤ s.length := numR_le s _ _ (q4_le s)
theorem q6_le (s : List UInt8) : (q6 s).1 ≤ s.length := numR_le s _ _ (q5_le s)
theorem q7_le (s : List UInt8) : (q7 s).1 ≤ s.length := numR_le s _ _ (q6_le s)
theorem q8_le (s : List UInt8) : (q8 s).1 ≤ s.length := numR_le s _ _ (q7_le s)
theorem q9_le (s : List UInt8) : (q9 s).1 ≤ s.length := celR_le s _ (q8_le s)
theorem q10_le (s : List UInt8) : (q10 s).1 ≤ s.length := celR_le s _ (q9_le s)
theorem q11_le (s : List UInt8) : (q11 s).1 ≤ s.length := numR_le s _ _ (q10_le s)
theorem q12_le (s : List UInt8) : (q12 s).1 ≤ s.length := txtR_le s _ _ (q11_le s)
theorem get_implDecode (s : List UInt8) (hs : s.length ≤ 140737488351232) {Q : List D → Prop} (h : ∀ x e, DecP s x e → Q (x.d ++ [.int e])) : Gt 41 [.str s] Q := by
  refine get rfl ?_
  simp only [t41, wp_call]
  refine get_implNum s q0 8 hs (by simp [q0]) (by omega) ⟨rfl, ?_⟩
  refine get_implNum s (q1 s) 1 hs (q1_le s) (by omega) ⟨rfl, ?_⟩
  refine get_implNum s (q2 s) 4 hs (q2_le s) (by omega) ⟨rfl, ?_⟩
  refine get_implNum s (q3 s) 8 hs (q3_le s) (by omega) ⟨rfl, ?_⟩
  refine get_implNum s (q4 s) 8 hs (q4_le s) (by omega) ⟨rfl, ?_⟩
  refine get_implNum s (q5 s) 8 hs (q5_le s) (by omega) ⟨rfl, ?_⟩
  refine get_implNum s (q6 s) 4 hs (q6_le s) (by omega) ⟨rfl, ?_⟩
  refine get_implNum s (q7 s) 1 hs (q7_le s) (by omega) ⟨rfl, ?_⟩
  refine get_implCel s (q8 s) hs (q8_le s) ⟨rfl, ?_⟩
  refine get_implCel s (q9 s) hs (q9_le s) ⟨rfl, ?_⟩
  refine get_implNum s (q10 s) 4 hs (q10_le s) (by omega) ⟨rfl, ?_⟩
  have hr := numR_range s (q10 s) 4 (by omega)
  obtain ⟨n, hn⟩ := Int.eq_ofNat_of_zero_le hr.1
  have e12 : r12 s = txtR s (q11 s) n := by unfold r12 r11; rw [hn]; rfl
  rw [hn]
  refine get_implText s (q11 s) n hs (q11_le s) (by omega) ⟨rfl, ?_⟩
  rw [← e12]
  have hd : ∀ x e, DecP s x e → Q (x.d ++ [.int e]) := h
  unfold DecP at h
  change WP K TA natA [] _ [.str s, .int (r1 s).1, .str s, .int (q1 s).1, .int (q1 s).2, .int (r2 s).1, .str s, .int (q2 s).1, .int (q2 s).2, .int (r3 s).1, .str s, .int (q3 s).1, .int (q3 s).2, .int (r4 s).1, .str s, .int (q4 s).1, .int (q4 s).2, .int (r5 s).1, .str s, .int (q5 s).1, .int (q5 s).2, .int (r6 s).1, .str s, .int (q6 s).1, .int (q6 s).2, .int (r7 s).1, .str s, .int (q7 s).1, .int (q7 s).2, .int (r8 s).1, .str s, .int (q8 s).1, .int (q8 s).2, .bool (r9 s).1, .str (r9 s).2.1, .str s, .int (q9 s).1, .int (q9 s).2, .bool (r10 s).1, .str (r10 s).2.1, .str s, .int (q10 s).1, .int (q10 s).2, .int n, .str s, .int (q11 s).1, .int (q11 s).2, .str (r12 s).1, .str s, .int (q12 s).1, .int (q12 s).2] Q
  by_cases h1 : (q12 s).2 = 0
  case neg =>
    rw [wp_T _ _ _ (by show F2.ine.den (.int (q12 s).2) (.int 0) = _; simp [h1])]
    exact h zeroE _ (.inl ⟨h1, rfl, rfl⟩)
  rw [wp_F _ _ _ (by show F2.ine.den (.int (q12 s).2) (.int 0) = _; simp [h1])]
  by_cases h2 : (q12 s).1 = s.length
  case neg =>
    have h3 : ¬ ((q12 s).1 : Int) = s.length := by omega
    rw [wp_T _ _ _ (by show F2.ine.den (.int (q12 s).1) (.int s.length) = _; simp [h3])]
    exact h zeroE _ (.inr (.inl ⟨h1, h2, rfl, rfl⟩))
  rw [wp_F _ _ _ (by show F2.ine.den (.int (q12 s).1) (.int s.length) = _; simp [h2])]
  rw [wp_call]
  refine get_implValid (decE s) fun r hr => ⟨rfl, ?_⟩
  cases r
  · rw [wp_T _ _ _ rfl]
    exact h zeroE _ (.inr (.inr (.inl ⟨h1, h2, by simp [← hr], rfl, rfl⟩)))
  · rw [wp_F _ _ _ rfl]
    exact h (decE s) _ (.inr (.inr (.inr ⟨h1, h2, hr.1 rfl, rfl, rfl⟩)))
theorem get_refDecode (s : List UInt8) (hs : s.length ≤ 140737488351232) {Q : List D → Prop} (h : ∀ x e, DecP s x e → Q (x.d ++ [.int e])) : Gt 42 [.str s] Q := by
  refine get rfl ?_
  simp only [t42, wp_call]
  refine get_refNum s q0 8 hs (by simp [q0]) (by omega) ⟨rfl, ?_⟩
  refine get_refNum s (q1 s) 1 hs (q1_le s) (by omega) ⟨rfl, ?_⟩
  refine get_refNum s (q2 s) 4 hs (q2_le s) (by omega) ⟨rfl, ?_⟩
  refine get_refNum s (q3 s) 8 hs (q3_le s) (by omega) ⟨rfl, ?_⟩
  refine get_refNum s (q4 s) 8 hs (q4_le s) (by omega) ⟨rfl, ?_⟩
  refine get_refNum s (q5 s) 8 hs (q5_le s) (by omega) ⟨rfl, ?_⟩
  refine get_refNum s (q6 s) 4 hs (q6_le s) (by omega) ⟨rfl, ?_⟩
  refine get_refNum s (q7 s) 1 hs (q7_le s) (by omega) ⟨rfl, ?_⟩
  refine get_refCel s (q8 s) hs (q8_le s) ⟨rfl, ?_⟩
  refine get_refCel s (q9 s) hs (q9_le s) ⟨rfl, ?_⟩
  refine get_refNum s (q10 s) 4 hs (q10_le s) (by omega) ⟨rfl, ?_⟩
  have hr := numR_range s (q10 s) 4 (by omega)
  obtain ⟨n, hn⟩ := Int.eq_ofNat_of_zero_le hr.1
  have e12 : r12 s = txtR s (q11 s) n := by unfold r12 r11; rw [hn]; rfl
  rw [hn]
  refine get_refText s (q11 s) n hs (q11_le s) (by omega) ⟨rfl, ?_⟩
  rw [← e12]
  have hd : ∀ x e, DecP s x e → Q (x.d ++ [.int e]) := h
  unfold DecP at h
  change WP K TA natA [] _ [.str s, .int (r1 s).1, .str s, .int (q1 s).1, .int (q1 s).2, .int (r2 s).1, .str s, .int (q2 s).1, .int (q2 s).2, .int (r3 s).1, .str s, .int (q3 s).1, .int (q3 s).2, .int (r4 s).1, .str s, .int (q4 s).1, .int (q4 s).2, .int (r5 s).1, .str s, .int (q5 s).1, .int (q5 s).2, .int (r6 s).1, .str s, .int (q6 s).1, .int (q6 s).2, .int (r7 s).1, .str s, .int (q7 s).1, .int (q7 s).2, .int (r8 s).1, .str s, .int (q8 s).1, .int (q8 s).2, .bool (r9 s).1, .str (r9 s).2.1, .str s, .int (q9 s).1, .int (q9 s).2, .bool (r10 s).1, .str (r10 s).2.1, .str s, .int (q10 s).1, .int (q10 s).2, .int n, .str s, .int (q11 s).1, .int (q11 s).2, .str (r12 s).1, .str s, .int (q12 s).1, .int (q12 s).2] Q
  by_cases h1 : (q12 s).2 = 0
  case neg =>
    rw [wp_T _ _ _ (by show F2.ine.den (.int (q12 s).2) (.int 0) = _; simp [h1])]
    exact h zeroE _ (.inl ⟨h1, rfl, rfl⟩)
  rw [wp_F _ _ _ (by show F2.ine.den (.int (q12 s).2) (.int 0) = _; simp [h1])]
  by_cases h2 : (q12 s).1 = s.length
  case neg =>
    have h3 : ¬ ((q12 s).1 : Int) = s.length := by omega
    rw [wp_T _ _ _ (by show F2.ine.den (.int (q12 s).1) (.int s.length) = _; simp [h3])]
    exact h zeroE _ (.inr (.inl ⟨h1, h2, rfl, rfl⟩))
  rw [wp_F _ _ _ (by show F2.ine.den (.int (q12 s).1) (.int s.length) = _; simp [h2])]
  rw [wp_call]
  refine get_refValid (decE s) fun r hr => ⟨rfl, ?_⟩
  cases r
  · rw [wp_T _ _ _ rfl]
    exact h zeroE _ (.inr (.inr (.inl ⟨h1, h2, by simp [← hr], rfl, rfl⟩)))
  · rw [wp_F _ _ _ rfl]
    exact h (decE s) _ (.inr (.inr (.inr ⟨h1, h2, hr.1 rfl, rfl, rfl⟩)))
end Go.Proofs.Ytdjbjfmgdagcgaa
