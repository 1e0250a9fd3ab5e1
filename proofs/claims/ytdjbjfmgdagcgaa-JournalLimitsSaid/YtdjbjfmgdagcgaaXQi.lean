/- Trees whose joins are no loops; values of functions; drawn numbers, texts and changes. -/
import Derived.Test.YtdjbjfmgdagcgaaXQg
namespace Go.Fw
open Alg
set_option linter.unusedVariables false
section
variable {C : Cx} {T : Nat → Option Tree} {nat : Vt}
/-- What has to be shown of a tree whose joins are no loops. -/
def WPn (C : Cx) (T : Nat → Option Tree) (nat : Vt) : List (List D → Prop) → Tree → List D → (List D → Prop) → Prop
  | js, .ret es, ρ, Q => Q (es.map (·.eval ρ))
  | js, .ite c a b, ρ, Q => Cond (c.eval ρ) (WPn C T nat js a ρ Q) (WPn C T nat js b ρ Q)
  | js, .guard c k, ρ, Q => c.eval ρ = .bool true ∧ WPn C T nat js k ρ Q
  | js, .call f args n k, ρ, Q => Gets C T nat f (args.map (·.eval ρ)) fun zs => zs.length = n ∧ WPn C T nat js k (ρ ++ zs) Q
  | js, .callv s x args n k, ρ, Q => GetsV C T nat s (x.eval ρ) (args.map (·.eval ρ)) fun zs => zs.length = n ∧ WPn C T nat js k (ρ ++ zs) Q
  | js, .join n body rest, ρ, Q => WPn C T nat (js ++ [fun bs : List D => (WPn C T nat (js ++ [fun _ : List D => False]) body (ρ ++ bs) Q : Prop)]) rest ρ Q
  | js, .jump j args, ρ, Q => ∃ G, js[j]? = some G ∧ G (args.map (·.eval ρ))
  | js, .any k, ρ, Q => False
theorem snoc_imp {js : List (List D → Prop)} {A B : List D → Prop} (h : ∀ us, A us → B us) (j : Nat) (G G' : List D → Prop) (e1 : (js ++ [A])[j]? = some G) (e2 : (js ++ [B])[j]? = some G') : ∀ us, G us → G' us := fun us hg => by
  by_cases hlt : j < js.length
  · rw [List.getElem?_append_left hlt] at e1 e2
    rw [e1] at e2
    injection e2 with e2
    rw [← e2]
    exact hg
  · have : j = js.length := by
      have := (List.getElem?_eq_some_iff.1 e1).1
      simp at this
      omega
    subst this
    rw [List.getElem?_concat_length] at e1 e2
    injection e1 with e1
    injection e2 with e2
    subst e1 e2
    exact h us hg
theorem WPn.wp {t : Tree} : ∀ {js : List (List D → Prop)} {ρ : List D} {Q : List D → Prop}, WPn C T nat js t ρ Q → WP C T nat js t ρ Q := by
  induction t with
  | ret es => intro js ρ Q h; exact h
  | ite c a b iha ihb =>
    intro js ρ Q h
    obtain ⟨p, h1, h2, h3⟩ := h
    exact ⟨p, h1, fun e => iha (h2 e), fun e => ihb (h3 e)⟩
  | guard c k ih => intro js ρ Q h; exact ⟨h.1, ih h.2⟩
  | call f args n k ih =>
    intro js ρ Q h
    obtain ⟨ys, h1, h2, h3⟩ := h
    exact ⟨ys, h1, h2, ih h3⟩
  | callv s x args n k ih =>
    intro js ρ Q h
    obtain ⟨f, tys, caps, t, ys, h1, h2, h3, h4, h5, h6⟩ := h
    exact ⟨f, tys, caps, t, ys, h1, h2, h3, h4, h5, ih h6⟩
  | join n body rest ihb ihr =>
    intro js ρ Q h
    refine ⟨fun m bs => WPn C T nat (js ++ [fun _ : List D => False]) body (ρ ++ bs) Q, fun m us hm => ?_, ?_⟩
    · exact (ihb hm).mono (fun _ h => h) (by simp) (snoc_imp fun _ h => h.elim)
    · exact (ihr h).mono (fun _ h => h) (by simp) (snoc_imp fun _ h => ⟨0, h⟩)
  | jump j args => intro js ρ Q h; exact h
  | any k ih => intro js ρ Q h; exact h.elim
end
section
variable {C : Cx} {T : Nat → Option Tree} {nat : Vt} {js : List (List D → Prop)} {ρ : List D} {Q : List D → Prop}
@[simp] theorem wpn_ret (es : List SExp) : WPn C T nat js (.ret es) ρ Q = Q (es.map (·.eval ρ)) := rfl
@[simp] theorem wpn_ite (c : SExp) (a b : Tree) : WPn C T nat js (.ite c a b) ρ Q = Cond (c.eval ρ) (WPn C T nat js a ρ Q) (WPn C T nat js b ρ Q) := rfl
@[simp] theorem wpn_guard (c : SExp) (k : Tree) : WPn C T nat js (.guard c k) ρ Q = (c.eval ρ = .bool true ∧ WPn C T nat js k ρ Q) := rfl
@[simp] theorem wpn_call (f : Nat) (args : List SExp) (n : Nat) (k : Tree) : WPn C T nat js (.call f args n k) ρ Q = Gets C T nat f (args.map (·.eval ρ)) fun zs => zs.length = n ∧ WPn C T nat js k (ρ ++ zs) Q := rfl
@[simp] theorem wpn_callv (s : Sig) (x : SExp) (args : List SExp) (n : Nat) (k : Tree) : WPn C T nat js (.callv s x args n k) ρ Q = GetsV C T nat s (x.eval ρ) (args.map (·.eval ρ)) fun zs => zs.length = n ∧ WPn C T nat js k (ρ ++ zs) Q := rfl
@[simp] theorem wpn_join (n : Nat) (body rest : Tree) : WPn C T nat js (.join n body rest) ρ Q = WPn C T nat (js ++ [fun bs : List D => (WPn C T nat (js ++ [fun _ : List D => False]) body (ρ ++ bs) Q : Prop)]) rest ρ Q := rfl
@[simp] theorem wpn_jump (j : Nat) (args : List SExp) : WPn C T nat js (.jump j args) ρ Q = ∃ G, js[j]? = some G ∧ G (args.map (·.eval ρ)) := rfl
end
end Go.Fw
namespace Go.Proofs.Ytdjbjfmgdagcgaa
open Go.Fw Go.Crc
set_option maxRecDepth 100000
set_option linter.unusedVariables false
set_option linter.unusedSimpArgs false
/-- A value of a function without captured values comes to something with this property. -/
theorem getV {s : Sig} {f : Nat} {t : Tree} (hs : K.sig f = some s) (ht : TA f = some t) {xs : List D} {Q : List D → Prop} (h : WP K TA natA [] t xs Q) : GetsV K TA natA s (.fn f [] []) xs Q := by
  obtain ⟨ys, h1, h2⟩ := h.sound (JS := []) ⟨rfl, fun j G body base e => by simp at e⟩
  exact ⟨f, [], [], t, ys, rfl, by simpa using hs, ht, by simpa using h2, h1⟩
theorem get_int (l : List (List D)) (a : Int) (hc : CO l a) {Q : List D → Prop} (h : ∀ x a' : Int, CO l a' → Q [.int x, .rows l, .int a']) : Gt 81 [.rows l, .int a] Q := by
  refine get rfl ?_
  simp only [t81, wp_call]
  refine get_next l a 10 hc fun x b hx0 _ hx1 hx2 hb => ⟨rfl, ?_⟩
  by_cases h0 : x = 0
  · simp [h0]
    refine get_next l b 3 hb fun y c hy0 _ hy1 hy2 hc => ⟨rfl, ?_⟩
    simp
    exact h _ c hc
  by_cases h1 : x = 1
  · simp [h1]
    refine get_next l b 16 hb fun y c hy0 _ hy1 hy2 hc => ⟨rfl, ?_⟩
    have hy := hy1 (by omega)
    have : y = 0 ∨ y = 1 ∨ y = 2 ∨ y = 3 ∨ y = 4 ∨ y = 5 ∨ y = 6 ∨ y = 7 ∨ y = 8 ∨ y = 9 ∨ y = 10 ∨ y = 11 ∨ y = 12 ∨ y = 13 ∨ y = 14 ∨ y = 15 := by omega
    rcases this with rfl | rfl | rfl | rfl | rfl | rfl | rfl | rfl | rfl | rfl | rfl | rfl | rfl | rfl | rfl | rfl <;> (simp; exact h _ c hc)
  simp [h0, h1]
  refine get_next l b 20 hb fun y c hy0 _ hy1 hy2 hc => ⟨rfl, ?_⟩
  simp
  exact h _ c hc
theorem get_data (l : List (List D)) (a : Int) (hc : CO l a) {Q : List D → Prop} (h : ∀ s a', s.length ≤ 14 → CO l a' → Q [.str s, .rows l, .int a']) : Gt 69 [.rows l, .int a] Q := by
  refine get rfl ?_
  simp only [t69, wp_call]
  refine get_next l a 5 hc fun n b hn0 _ hn1 _ hb => ⟨rfl, ?_⟩
  refine get_next l b 6 hb fun x c hx0 _ hx1 _ hc => ⟨rfl, ?_⟩
  by_cases h0 : x = 0
  · simp [h0]
    refine get_next l c 14 hc fun m d hm0 _ hm1 _ hd => ⟨rfl, ?_⟩
    have hm := hm1 (by omega)
    simp [hm0]
    refine ⟨by omega, ?_⟩
    refine wp_loop_rule (fun r ws => ∃ i : Nat, ∃ q : Int, ∃ w : List (List D), r + i = m.toNat ∧ w.length = i ∧ CO l q ∧ ws = [.int i, .rows l, .int q, .rows w]) ?_ ?_
    · rintro r ws ⟨i, q, w, hr, hw, hq, rfl⟩
      have ew : IntKind.i64.wrap ((i : Int) + 1) = i + 1 := wi (by omega)
      by_cases hi : (i : Int) < m
      · simp [hi]
        refine get_next l q 3 hq fun y q' hy0 _ hy1 _ hq' => ⟨rfl, ?_⟩
        simp [ew]
        exact ⟨by omega, r - 1, by omega, i + 1, by omega, q', w ++ [[D.int (IntKind.u8.wrap (IntKind.i64.wrap (97 + y)))]], by simp; omega, hq', by omega, rfl, rfl⟩
      · simp [hi]
        exact h _ q (by simp; omega) hq
    · simp
      exact ⟨m.toNat, 0, by omega, d, [], rfl, hd, rfl, rfl, rfl⟩
  have hn := hn1 (by omega)
  simp [h0, hn0]
  refine ⟨by omega, ?_⟩
  refine wp_loop_rule (fun r ws => ∃ i : Nat, ∃ q : Int, ∃ w : List (List D), r + i = n.toNat ∧ w.length = i ∧ CO l q ∧ ws = [.int i, .rows l, .int q, .rows w]) ?_ ?_
  · rintro r ws ⟨i, q, w, hr, hw, hq, rfl⟩
    have ew : IntKind.i64.wrap ((i : Int) + 1) = i + 1 := wi (by omega)
    by_cases hi : (i : Int) < n
    · simp [hi]
      refine get_next l q 3 hq fun y q' hy0 _ hy1 _ hq' => ⟨rfl, ?_⟩
      simp [ew]
      exact ⟨by omega, r - 1, by omega, i + 1, by omega, q', w ++ [[D.int (IntKind.u8.wrap (IntKind.i64.wrap (97 + y)))]], by simp; omega, hq', by omega, rfl, rfl⟩
    · simp [hi]
      exact h _ q (by simp; omega) hq
  · simp
    exact ⟨n.toNat, 0, by omega, c, [], rfl, hc, rfl, rfl, rfl⟩
theorem get_cell (l : List (List D)) (a : Int) (hc : CO l a) {Q : List D → Prop} (h : ∀ b s a', s.length ≤ 12 → (b = false → s = []) → CO l a' → Q [.bool b, .str s, .rows l, .int a']) : Gt 94 [.rows l, .int a] Q := by
  refine get rfl ?_
  simp only [t94, wp_call]
  refine get_next l a 3 hc fun x b hx0 _ hx1 _ hb => ⟨rfl, ?_⟩
  by_cases h0 : x = 0
  · simp [h0]
    exact h false [] b (by simp) (fun _ => rfl) hb
  simp [h0]
  refine get_data l b hb fun s c hs hc => ⟨rfl, ?_⟩
  by_cases h1 : (12 : Int) < s.length
  · simp [h1]
    exact ⟨by omega, h true (s.take 12) c (by simp; omega) (by simp) hc⟩
  · simp [h1]
    exact h true s c (by omega) (by simp) hc
theorem get_change (l : List (List D)) (a : Int) (hc : CO l a) {Q : List D → Prop}
    (h : ∀ (p n : Int) (b : Bool) s (c : Bool) t a', 0 ≤ p → p < 4 → 0 ≤ n → n < 3 → s.length ≤ 12 → (b = false → s = []) → t.length ≤ 12 → (c = false → t = []) → CO l a' → Q [.int p, .int n, .bool b, .str s, .bool c, .str t, .rows l, .int a']) : Gt 68 [.rows l, .int a] Q := by
  refine get rfl ?_
  simp only [t68, wp_call]
  refine get_next l a 4 hc fun p a1 hp0 _ hp1 _ h1 => ⟨rfl, ?_⟩
  refine get_next l a1 3 h1 fun n a2 hn0 _ hn1 _ h2 => ⟨rfl, ?_⟩
  refine get_cell l a2 h2 fun b s a3 hs0 hs1 h3 => ⟨rfl, ?_⟩
  refine get_cell l a3 h3 fun c t a4 ht0 ht1 h4 => ⟨rfl, ?_⟩
  simp
  exact h p n b s c t a4 hp0 (hp1 (by omega)) hn0 (hn1 (by omega)) hs0 hs1 ht0 ht1 h4
theorem get_oddChange (l : List (List D)) (a : Int) (hc : CO l a) (p n : Int) (b : Bool) (s : List UInt8) (c : Bool) (t : List UInt8) {Q : List D → Prop}
    (h : ∀ (p n : Int) (b : Bool) s (c : Bool) t a', CO l a' → Q [.int p, .int n, .bool b, .str s, .bool c, .str t, .rows l, .int a']) : Gt 82 [.rows l, .int a, .int p, .int n, .bool b, .str s, .bool c, .str t] Q := by
  refine get rfl ?_
  simp only [t82, wp_call]
  refine get_next l a 4 hc fun x a1 hx0 _ hx1 _ h1 => ⟨rfl, ?_⟩
  have hx := hx1 (by omega)
  have : x = 0 ∨ x = 1 ∨ x = 2 ∨ x = 3 := by omega
  rcases this with rfl | rfl | rfl | rfl
  · simp
    refine get_int l a1 h1 fun y a2 h2 => ⟨rfl, ?_⟩
    simp
    exact h _ _ _ _ _ _ _ h2
  · simp
    refine get_int l a1 h1 fun y a2 h2 => ⟨rfl, ?_⟩
    simp
    exact h _ _ _ _ _ _ _ h2
  · simp
    refine get_next l a1 2 h1 fun y a2 _ _ _ _ h2 => ⟨rfl, ?_⟩
    refine get_data l a2 h2 fun u a3 _ h3 => ⟨rfl, ?_⟩
    simp
    exact h _ _ _ _ _ _ _ h3
  · simp
    refine get_next l a1 2 h1 fun y a2 _ _ _ _ h2 => ⟨rfl, ?_⟩
    refine get_data l a2 h2 fun u a3 _ h3 => ⟨rfl, ?_⟩
    simp
    exact h _ _ _ _ _ _ _ h3
end Go.Proofs.Ytdjbjfmgdagcgaa
