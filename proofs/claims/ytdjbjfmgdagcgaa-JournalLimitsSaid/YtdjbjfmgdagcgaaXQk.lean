/- Entries: which are valid, over both trees. -/
import Derived.Test.YtdjbjfmgdagcgaaXQj
namespace Go.Proofs.Ytdjbjfmgdagcgaa
open Go.Fw Go.Crc
set_option maxRecDepth 100000
set_option linter.unusedVariables false
set_option linter.unusedSimpArgs false
section
variable {C : Cx} {T : Nat → Option Tree} {nat : Vt} {js : List (List D → Prop)} {ρ : List D} {Q : List D → Prop}
@[simp ↓] theorem wpn_T (c : SExp) (a b : Tree) (h : c.eval ρ = .bool true) : WPn C T nat js (.ite c a b) ρ Q = WPn C T nat js a ρ Q := by rw [wpn_ite, h]; simp
@[simp ↓] theorem wpn_F (c : SExp) (a b : Tree) (h : c.eval ρ = .bool false) : WPn C T nat js (.ite c a b) ρ Q = WPn C T nat js b ρ Q := by rw [wpn_ite, h]; simp
@[congr] theorem gets_congr {f : Nat} {xs ys : List D} (h : xs = ys) : Gets C T nat f xs Q = Gets C T nat f ys Q := by rw [h]
@[congr] theorem getsV_congr {s : Sig} {x y : D} {xs ys : List D} (h : xs = ys) (h' : x = y) : GetsV C T nat s x xs Q = GetsV C T nat s y ys Q := by rw [h, h']
end
theorem get_refBefore (a b : Int) {Q : List D → Prop} (h : ∀ r : Bool, (r = true ↔ befP a b) → Q [.bool r]) : Gt 80 [.int a, .int b] Q := by
  refine get rfl ?_
  by_cases h1 : 0 ≤ a
  · simp [t80, h1]
    exact h _ (by simp [befP, h1])
  · simp [t80, h1]
    exact h _ (by simp [befP, h1])
theorem get_implBefore (a : Int) (e : En) {Q : List D → Prop} (h : ∀ r : Bool, (r = true ↔ befP a e.lsn) → Q [.bool r]) : Gt 77 (.int a :: e.d) Q := by
  refine get rfl ?_
  by_cases h1 : 0 ≤ a
  · simp [t77, En.d, h1]
    exact h _ (by simp [befP, h1])
  · simp [t77, En.d, h1]
    exact h _ (by simp [befP, h1])
theorem get_refValid (e : En) {Q : List D → Prop} (h : ∀ r : Bool, (r = true ↔ validP e) → Q [.bool r]) : Gt 45 e.d Q := by
  refine get rfl ?_
  simp only [t45, wp_call]
  refine get_shape e fun o r hr => ⟨rfl, ?_⟩
  unfold validP at h
  cases r
  · simp [En.d]
    exact h _ (by simp [← hr])
  simp [En.d]
  by_cases ho : o = e
  case neg =>
    have : ¬ ((o.lsn = e.lsn ∧ o.kind = e.kind ∧ o.tx = e.tx ∧ o.ptx = e.ptx ∧ o.pp = e.pp ∧ o.ref = e.ref ∧ o.page = e.page ∧ o.slot = e.slot ∧ o.bs = e.bs ∧ o.bd = e.bd ∧ o.az = e.az ∧ o.ad = e.ad ∧ o.blob = e.blob)) := by
      intro hh
      apply ho
      cases o
      cases e
      simpa using hh
    simp [this]
    exact h _ (by simp [← hr, ho])
  subst ho
  simp
  by_cases h1 : 1 ≤ o.lsn
  case neg => simp [h1]; exact h _ (by simp [h1])
  by_cases h2 : o.lsn ≤ 1099511627776
  case neg => simp [h1, h2]; exact h _ (by simp [h2])
  simp [h1, h2]
  refine get_refBefore o.ptx o.lsn fun r1 hr1 => ⟨rfl, ?_⟩
  cases r1
  · simp
    exact h _ (by simp [← hr1])
  simp
  refine get_refBefore o.pp o.lsn fun r2 hr2 => ⟨rfl, ?_⟩
  cases r2
  · simp
    exact h _ (by simp [← hr2])
  simp
  refine get_refBefore o.ref o.lsn fun r3 hr3 => ⟨rfl, ?_⟩
  simp
  exact h _ (by simp [← hr, ← hr1, ← hr2, ← hr3, h1, h2])
/-- What the rules say of a kind. -/
def ruleD (tx ch pg rf bl : Bool) (r c : D) : List D := [.bool tx, .bool ch, .bool pg, .bool rf, .bool bl, r, c]
theorem get_rules {Q : List D → Prop} (h : ∀ l, l.length = 9 → l[1]? = some (ruleD true false true false false (.fn 95 [] []) (.fn 97 [] [])) → l[2]? = some (ruleD true true true true false (.fn 98 [] []) (.fn 97 [] [])) →
    l[3]? = some (ruleD true true false false false (.fn 95 [] []) (.fn 96 [] [])) → l[4]? = some (ruleD true true false false false (.fn 95 [] []) (.fn 96 [] [])) → l[5]? = some (ruleD true true false false false (.fn 95 [] []) (.fn 96 [] [])) →
    l[6]? = some (ruleD false false false false true (.fn 95 [] []) (.fn 96 [] [])) → l[7]? = some (ruleD false false false true false (.fn 95 [] []) (.fn 99 [] [])) → l[8]? = some (ruleD false false false false true (.fn 95 [] []) (.fn 96 [] [])) → Q [.rows l]) : Gt 78 [] Q := by
  refine get rfl ?_
  exact h _ (by kernel_rfl) (by kernel_rfl) (by kernel_rfl) (by kernel_rfl) (by kernel_rfl) (by kernel_rfl) (by kernel_rfl) (by kernel_rfl) (by kernel_rfl)
theorem ifP {c : Prop} [Decidable c] {A B : Prop} (h1 : c → A) (h2 : ¬c → B) : if c then A else B := by
  split
  · exact h1 ‹_›
  · exact h2 ‹_›
theorem getv_any {s : Sig} (hs : K.sig 95 = some s) (xs : List D) {Q : List D → Prop} (h : Q [.bool true]) : GetsV K TA natA s (.fn 95 [] []) xs Q :=
  getV hs rfl (by simpa [t95] using h)
theorem getv_undo {s : Sig} (hs : K.sig 98 = some s) (e : En) {Q : List D → Prop} (h : ∀ r : Bool, (r = true ↔ 1 ≤ e.ref ∧ e.ref ≤ e.ptx) → Q [.bool r]) : GetsV K TA natA s (.fn 98 [] []) e.d Q := by
  refine getV hs rfl ?_
  by_cases h1 : 1 ≤ e.ref
  · simp [t98, En.d, h1]
    exact h _ (by simp [h1])
  · simp [t98, En.d, h1]
    exact h _ (by simp [h1])
theorem getv_none {s : Sig} (hs : K.sig 96 = some s) (e : En) {Q : List D → Prop} (h : ∀ r : Bool, (r = true ↔ e.page = 0 ∧ noneP e) → Q [.bool r]) : GetsV K TA natA s (.fn 96 [] []) [.int e.page, .int e.slot, .bool e.bs, .str e.bd, .bool e.az, .str e.ad] Q := by
  refine getV hs rfl ?_
  simp [t96]
  exact h _ (by simp [noneP])
theorem getv_index {s : Sig} (hs : K.sig 99 = some s) (e : En) {Q : List D → Prop} (h : ∀ r : Bool, (r = true ↔ noneP e ∧ 0 ≤ e.page ∧ e.page < 64) → Q [.bool r]) : GetsV K TA natA s (.fn 99 [] []) [.int e.page, .int e.slot, .bool e.bs, .str e.bd, .bool e.az, .str e.ad] Q := by
  refine getV hs rfl ?_
  by_cases h1 : noneP e
  · have h2 := h1
    unfold noneP at h2
    by_cases h3 : 0 ≤ e.page
    · simp [t99, h2, h3]
      exact h _ (by simp [h1, h3])
    · simp [t99, h2, h3]
      exact h _ (by simp [h1, h3])
  · have h2 := h1
    unfold noneP at h2
    simp [t99, h2]
    exact h _ (by simp [h1])
theorem getv_change {s : Sig} (hs : K.sig 97 = some s) (e : En) {Q : List D → Prop} (h : ∀ r : Bool, (r = true ↔ chgP e) → Q [.bool r]) : GetsV K TA natA s (.fn 97 [] []) [.int e.page, .int e.slot, .bool e.bs, .str e.bd, .bool e.az, .str e.ad] Q :=
  getV hs rfl (get_implChange e h)
set_option maxHeartbeats 4000000 in
theorem get_implValid (e : En) {Q : List D → Prop} (h : ∀ r : Bool, (r = true ↔ validP e) → Q [.bool r]) : Gt 44 e.d Q := by
  refine get rfl (WPn.wp ?_)
  unfold validP at h
  simp only [t44]
  by_cases h1 : e.lsn < 1
  · rw [wpn_T _ _ _ (by simp [En.d, h1])]
    exact h false (by simp; omega)
  rw [wpn_F _ _ _ (by simp [En.d, h1])]
  by_cases h2 : 1099511627776 < e.lsn
  · rw [wpn_T _ _ _ (by simp [En.d, h2])]
    exact h false (by simp; omega)
  rw [wpn_F _ _ _ (by simp [En.d, h2])]
  by_cases h3 : e.kind < 1
  · rw [wpn_T _ _ _ (by simp [En.d, h3])]
    exact h false (by simp [shapeP]; omega)
  rw [wpn_F _ _ _ (by simp [En.d, h3])]
  by_cases h4 : 8 < e.kind
  · rw [wpn_T _ _ _ (by simp [En.d, h4])]
    exact h false (by simp [shapeP]; omega)
  rw [wpn_F _ _ _ (by simp [En.d, h4]), wpn_call]
  refine get_implBefore e.ptx e fun r1 hr1 => ⟨rfl, ?_⟩
  cases r1
  · rw [wpn_T _ _ _ rfl]
    exact h false (by simp [← hr1])
  rw [wpn_F _ _ _ rfl, wpn_call]
  refine get_implBefore e.pp e fun r2 hr2 => ⟨rfl, ?_⟩
  cases r2
  · rw [wpn_T _ _ _ rfl]
    exact h false (by simp [← hr2])
  rw [wpn_F _ _ _ rfl, wpn_call]
  refine get_implBefore e.ref e fun r3 hr3 => ⟨rfl, ?_⟩
  cases r3
  · rw [wpn_T _ _ _ rfl]
    exact h false (by simp [← hr3])
  rw [wpn_F _ _ _ rfl, wpn_call]
  refine get_rules fun l hl l1 l2 l3 l4 l5 l6 l7 l8 => ⟨rfl, ?_⟩
  have h' : ∀ r : Bool, (r = true ↔ shapeP e) → Q [.bool r] := fun r hr => h r (by simp [← hr, ← hr1, ← hr2, ← hr3]; omega)
  have b1 : 0 ≤ e.ptx := (hr1.1 rfl).1
  clear h hr1 hr2 hr3
  rw [wpn_guard]
  refine ⟨by simp [En.d]; omega, ?_⟩
  rw [wpn_guard]
  refine ⟨by simp [En.d]; omega, ?_⟩
  obtain ⟨lsn, kind, tx, ptx, pp, ref, page, slot, bs, bd, az, ad, blob⟩ := e
  have hk : kind = 1 ∨ kind = 2 ∨ kind = 3 ∨ kind = 4 ∨ kind = 5 ∨ kind = 6 ∨ kind = 7 ∨ kind = 8 := by simp at h3 h4; omega
  simp only [En.d] at *
  rcases hk with rfl | rfl | rfl | rfl | rfl | rfl | rfl | rfl
  · simp [l1, ruleD]
    repeat' (refine ifP (fun _ => ?_) (fun _ => ?_))
    all_goals first
      | (refine h' false ?_
         simp only [shapeP, txP, noneP]
         grind)
      | (exfalso; omega)
      | skip
    all_goals
      first
        | done
        | (
          refine getv_any (by kernel_rfl) _ ⟨rfl, ?_⟩
          simp
          refine getv_change (by kernel_rfl) ⟨lsn, 1, tx, ptx, pp, ref, page, slot, bs, bd, az, ad, blob⟩ fun r hr => ⟨rfl, ?_⟩
          simp
          refine h' r ?_
          simp only [shapeP, txP, noneP] at hr ⊢
          grind)
  · simp [l2, ruleD]
    repeat' (refine ifP (fun _ => ?_) (fun _ => ?_))
    all_goals first
      | (refine h' false ?_
         simp only [shapeP, txP, noneP]
         grind)
      | (exfalso; omega)
      | skip
    all_goals
      first
        | done
        | (
          refine getv_undo (by kernel_rfl) ⟨lsn, 2, tx, ptx, pp, ref, page, slot, bs, bd, az, ad, blob⟩ fun r0 hr0 => ⟨rfl, ?_⟩
          cases r0
          · simp
            refine h' false ?_
            simp only [shapeP, txP, noneP] at hr0 ⊢
            grind
          simp
          refine getv_change (by kernel_rfl) ⟨lsn, 2, tx, ptx, pp, ref, page, slot, bs, bd, az, ad, blob⟩ fun r hr => ⟨rfl, ?_⟩
          simp
          refine h' r ?_
          simp only [shapeP, txP, noneP] at hr0 hr ⊢
          grind)
  · simp [l3, ruleD]
    repeat' (refine ifP (fun _ => ?_) (fun _ => ?_))
    all_goals first
      | (refine h' false ?_
         simp only [shapeP, txP, noneP]
         grind)
      | (exfalso; omega)
      | skip
    all_goals
      first
        | done
        | (
          refine getv_any (by kernel_rfl) _ ⟨rfl, ?_⟩
          simp
          refine getv_none (by kernel_rfl) ⟨lsn, 3, tx, ptx, pp, ref, page, slot, bs, bd, az, ad, blob⟩ fun r hr => ⟨rfl, ?_⟩
          simp
          refine h' r ?_
          simp only [shapeP, txP, noneP] at hr ⊢
          grind)
  · simp [l4, ruleD]
    repeat' (refine ifP (fun _ => ?_) (fun _ => ?_))
    all_goals first
      | (refine h' false ?_
         simp only [shapeP, txP, noneP]
         grind)
      | (exfalso; omega)
      | skip
    all_goals
      first
        | done
        | (
          refine getv_any (by kernel_rfl) _ ⟨rfl, ?_⟩
          simp
          refine getv_none (by kernel_rfl) ⟨lsn, 4, tx, ptx, pp, ref, page, slot, bs, bd, az, ad, blob⟩ fun r hr => ⟨rfl, ?_⟩
          simp
          refine h' r ?_
          simp only [shapeP, txP, noneP] at hr ⊢
          grind)
  · simp [l5, ruleD]
    repeat' (refine ifP (fun _ => ?_) (fun _ => ?_))
    all_goals first
      | (refine h' false ?_
         simp only [shapeP, txP, noneP]
         grind)
      | (exfalso; omega)
      | skip
    all_goals
      first
        | done
        | (
          refine getv_any (by kernel_rfl) _ ⟨rfl, ?_⟩
          simp
          refine getv_none (by kernel_rfl) ⟨lsn, 5, tx, ptx, pp, ref, page, slot, bs, bd, az, ad, blob⟩ fun r hr => ⟨rfl, ?_⟩
          simp
          refine h' r ?_
          simp only [shapeP, txP, noneP] at hr ⊢
          grind)
  · simp [l6, ruleD]
    repeat' (refine ifP (fun _ => ?_) (fun _ => ?_))
    all_goals first
      | (refine h' false ?_
         simp only [shapeP, txP, noneP]
         grind)
      | (exfalso; omega)
      | skip
    all_goals
      first
        | done
        | (
          refine getv_any (by kernel_rfl) _ ⟨rfl, ?_⟩
          simp
          refine getv_none (by kernel_rfl) ⟨lsn, 6, tx, ptx, pp, ref, page, slot, bs, bd, az, ad, blob⟩ fun r hr => ⟨rfl, ?_⟩
          simp
          refine h' r ?_
          simp only [shapeP, txP, noneP] at hr ⊢
          grind)
  · simp [l7, ruleD]
    repeat' (refine ifP (fun _ => ?_) (fun _ => ?_))
    all_goals first
      | (refine h' false ?_
         simp only [shapeP, txP, noneP]
         grind)
      | (exfalso; omega)
      | skip
    all_goals
      first
        | done
        | (
          refine getv_any (by kernel_rfl) _ ⟨rfl, ?_⟩
          simp
          refine getv_index (by kernel_rfl) ⟨lsn, 7, tx, ptx, pp, ref, page, slot, bs, bd, az, ad, blob⟩ fun r hr => ⟨rfl, ?_⟩
          simp
          refine h' r ?_
          simp only [shapeP, txP, noneP] at hr ⊢
          grind)
  · simp [l8, ruleD]
    repeat' (refine ifP (fun _ => ?_) (fun _ => ?_))
    all_goals first
      | (refine h' false ?_
         simp only [shapeP, txP, noneP]
         grind)
      | (exfalso; omega)
      | skip
    all_goals
      first
        | done
        | (
          refine getv_any (by kernel_rfl) _ ⟨rfl, ?_⟩
          simp
          refine getv_none (by kernel_rfl) ⟨lsn, 8, tx, ptx, pp, ref, page, slot, bs, bd, az, ad, blob⟩ fun r hr => ⟨rfl, ?_⟩
          simp
          refine h' r ?_
          simp only [shapeP, txP, noneP] at hr ⊢
          grind)
end Go.Proofs.Ytdjbjfmgdagcgaa
