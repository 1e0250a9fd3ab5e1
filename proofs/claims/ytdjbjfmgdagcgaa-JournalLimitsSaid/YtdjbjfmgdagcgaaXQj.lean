/- Entries: which are valid. -/
import Derived.Test.YtdjbjfmgdagcgaaXQi
namespace Go.Proofs.Ytdjbjfmgdagcgaa
open Go.Fw Go.Crc
set_option maxRecDepth 100000
set_option linter.unusedVariables false
set_option linter.unusedSimpArgs false
structure En where
  lsn : Int
  kind : Int
  tx : Int
  ptx : Int
  pp : Int
  ref : Int
  page : Int
  slot : Int
  bs : Bool
  bd : List UInt8
  az : Bool
  ad : List UInt8
  blob : List UInt8
def En.d (e : En) : List D := [.int e.lsn, .int e.kind, .int e.tx, .int e.ptx, .int e.pp, .int e.ref, .int e.page, .int e.slot, .bool e.bs, .str e.bd, .bool e.az, .str e.ad, .str e.blob]
@[simp] theorem beq_int (a b : Int) : D.beq (.int a) (.int b) = (a == b) := rfl
@[simp] theorem beq_bool (a b : Bool) : D.beq (.bool a) (.bool b) = (a == b) := rfl
@[simp] theorem beq_str (a b : List UInt8) : D.beq (.str a) (.str b) = (a == b) := rfl
@[simp] theorem beq_rows (a b : List (List D)) : D.beq (.rows a) (.rows b) = beqRows a b := rfl
@[simp] theorem beqRows_nil : beqRows [] [] = true := rfl
@[simp] theorem beqRows_cons (a b : List D) (x y : List (List D)) : beqRows (a :: x) (b :: y) = (beqRow a b && beqRows x y) := rfl
@[simp] theorem beqRow_nil : beqRow [] [] = true := rfl
@[simp] theorem beqRow_cons (a b : D) (x y : List D) : beqRow (a :: x) (b :: y) = (D.beq a b && beqRow x y) := rfl
def cellP (b : Bool) (s : List UInt8) : Prop := s.length ≤ 12 ∧ (b = true ∨ s = [])
def chgP (e : En) : Prop := (0 ≤ e.page ∧ e.page < 64) ∧ (0 ≤ e.slot ∧ e.slot < 16) ∧ cellP e.bs e.bd ∧ cellP e.az e.ad
def txP (e : En) : Prop := 1 ≤ e.tx ∧ e.tx ≤ 1073741824
def noneP (e : En) : Prop := e.slot = 0 ∧ e.bs = false ∧ e.bd = [] ∧ e.az = false ∧ e.ad = []
def shapeP (e : En) : Prop :=
  (e.kind = 1 ∧ chgP e ∧ e.ref = 0 ∧ txP e ∧ e.blob = []) ∨
  (e.kind = 2 ∧ chgP e ∧ 0 < e.ptx ∧ 1 ≤ e.ref ∧ e.ref ≤ e.ptx ∧ txP e ∧ e.blob = []) ∨
  ((e.kind = 3 ∨ e.kind = 4 ∨ e.kind = 5) ∧ txP e ∧ 0 < e.ptx ∧ e.pp = 0 ∧ e.ref = 0 ∧ e.page = 0 ∧ noneP e ∧ e.blob = []) ∨
  ((e.kind = 6 ∨ e.kind = 8) ∧ e.tx = 0 ∧ e.ptx = 0 ∧ e.pp = 0 ∧ e.ref = 0 ∧ e.page = 0 ∧ noneP e ∧ e.blob.length ≤ 8192) ∨
  (e.kind = 7 ∧ e.tx = 0 ∧ e.ptx = 0 ∧ e.pp = 0 ∧ noneP e ∧ e.blob = [] ∧ 0 ≤ e.page ∧ e.page < 64)
def befP (n l : Int) : Prop := 0 ≤ n ∧ n < l
def validP (e : En) : Prop := shapeP e ∧ 1 ≤ e.lsn ∧ e.lsn ≤ 1099511627776 ∧ befP e.ptx e.lsn ∧ befP e.pp e.lsn ∧ befP e.ref e.lsn
theorem get_refCell (b : Bool) (s : List UInt8) {Q : List D → Prop} (h : ∀ r : Bool, (r = true ↔ cellP b s) → Q [.bool r]) : Gt 106 [.bool b, .str s] Q := by
  refine get rfl ?_
  by_cases h1 : (s.length : Int) ≤ 12
  · cases b
    · simp [t106, h1]
      exact h _ (by simp [cellP]; omega)
    · simp [t106, h1]
      exact h _ (by simp [cellP]; omega)
  · simp [t106, h1]
    exact h _ (by simp [cellP]; omega)
theorem get_implCell (b : Bool) (s : List UInt8) {Q : List D → Prop} (h : ∀ r : Bool, (r = true ↔ cellP b s) → Q [.bool r]) : Gt 105 [.bool b, .str s] Q := by
  refine get rfl ?_
  by_cases h1 : (s.length : Int) ≤ 12
  · cases b
    · simp [t105, h1]
      exact h _ (by simp [cellP]; omega)
    · simp [t105, h1]
      exact h _ (by simp [cellP]; omega)
  · simp [t105, h1]
    exact h _ (by simp [cellP]; omega)
theorem get_refChange (e : En) {Q : List D → Prop} (h : ∀ r : Bool, (r = true ↔ chgP e) → Q [.bool r]) : Gt 100 [.int e.page, .int e.slot, .bool e.bs, .str e.bd, .bool e.az, .str e.ad] Q := by
  refine get rfl ?_
  unfold chgP at h
  by_cases h1 : 0 ≤ e.page
  case neg => simp [t100, h1]; exact h _ (by simp [h1])
  by_cases h2 : e.page < 64
  case neg => simp [t100, h1, h2]; exact h _ (by simp [h1, h2])
  by_cases h3 : 0 ≤ e.slot
  case neg => simp [t100, h1, h2, h3]; exact h _ (by simp [h1, h2, h3])
  by_cases h4 : e.slot < 16
  case neg => simp [t100, h1, h2, h3, h4]; exact h _ (by simp [h1, h2, h3, h4])
  simp [t100, h1, h2, h3, h4]
  refine get_refCell e.bs e.bd fun r hr => ⟨rfl, ?_⟩
  cases r
  · simp
    exact h _ (by simp [← hr])
  · simp
    refine get_refCell e.az e.ad fun r' hr' => ⟨rfl, ?_⟩
    simp
    exact h _ (by simp [← hr, ← hr', h1, h2, h3, h4])
theorem get_implChange (e : En) {Q : List D → Prop} (h : ∀ r : Bool, (r = true ↔ chgP e) → Q [.bool r]) : WP K TA natA [] t97 [.int e.page, .int e.slot, .bool e.bs, .str e.bd, .bool e.az, .str e.ad] Q := by
  unfold chgP at h
  simp only [t97, wp_call]
  have hp : Gt 104 [.int e.page] fun zs => zs = [.bool (decide (0 ≤ e.page ∧ e.page < 64))] := by
    refine get rfl ?_
    by_cases h1 : 0 ≤ e.page <;> simp [t104, h1]
  obtain ⟨zs, hz, rfl⟩ := hp
  refine ⟨_, hz, rfl, ?_⟩
  by_cases h1 : 0 ≤ e.page ∧ e.page < 64
  case neg => simp [h1]; exact h _ (by simp; intro a b; exact absurd ⟨a, b⟩ h1)
  by_cases h3 : 0 ≤ e.slot
  case neg => simp [h1, h3]; exact h _ (by simp [h1, h3])
  by_cases h4 : e.slot < 16
  case neg => simp [h1, h3, h4]; exact h _ (by simp [h1, h3, h4])
  simp [h1, h3, h4]
  refine get_implCell e.bs e.bd fun r hr => ⟨rfl, ?_⟩
  cases r
  · simp
    exact h _ (by simp [← hr])
  · simp
    refine get_implCell e.az e.ad fun r' hr' => ⟨rfl, ?_⟩
    simp
    exact h _ (by simp [← hr, ← hr', h1, h3, h4])
/-- The shape of an entry: what the reference keeps, and whether it is right. -/
theorem get_shape (e : En) {Q : List D → Prop} (h : ∀ (o : En) (r : Bool), ((r = true ∧ o = e) ↔ shapeP e) → Q (o.d ++ [.bool r])) : Gt 79 e.d Q := by
  refine get rfl (WPn.wp ?_)
  obtain ⟨lsn, kind, tx, ptx, pp, ref, page, slot, bs, bd, az, ad, blob⟩ := e
  have fin : ∀ (l2 k2 t2 pt2 p2 r2 pg2 sl2 : Int) (bs2 : Bool) (bd2 : List UInt8) (az2 : Bool) (ad2 bl2 : List UInt8) (r : Bool), ((r = true ∧ (⟨l2, k2, t2, pt2, p2, r2, pg2, sl2, bs2, bd2, az2, ad2, bl2⟩ : En) = ⟨lsn, kind, tx, ptx, pp, ref, page, slot, bs, bd, az, ad, blob⟩) ↔ shapeP ⟨lsn, kind, tx, ptx, pp, ref, page, slot, bs, bd, az, ad, blob⟩) →
      Q [.int l2, .int k2, .int t2, .int pt2, .int p2, .int r2, .int pg2, .int sl2, .bool bs2, .str bd2, .bool az2, .str ad2, .str bl2, .bool r] := fun _ _ _ _ _ _ _ _ _ _ _ _ _ r hr => h ⟨_, _, _, _, _, _, _, _, _, _, _, _, _⟩ r hr
  by_cases k1 : kind = 1
  · subst k1
    simp [t79, En.d]
    refine get_refChange ⟨lsn, 1, tx, ptx, pp, ref, page, slot, bs, bd, az, ad, blob⟩ fun r hr => ⟨rfl, ?_⟩
    cases r
    · simp
      refine fin _ _ _ _ _ _ _ _ _ _ _ _ _ _ ?_
      simp only [shapeP, txP, noneP, En.mk.injEq]
      grind
    · simp
      split
      all_goals
        refine fin _ _ _ _ _ _ _ _ _ _ _ _ _ _ ?_
        simp only [shapeP, txP, noneP, En.mk.injEq]
        grind
  by_cases k2 : kind = 2
  · subst k2
    simp [t79, En.d]
    refine get_refChange ⟨lsn, 2, tx, ptx, pp, ref, page, slot, bs, bd, az, ad, blob⟩ fun r hr => ⟨rfl, ?_⟩
    cases r
    · simp
      refine fin _ _ _ _ _ _ _ _ _ _ _ _ _ _ ?_
      simp only [shapeP, txP, noneP, En.mk.injEq]
      grind
    · simp
      repeat' split
      all_goals
        refine fin _ _ _ _ _ _ _ _ _ _ _ _ _ _ ?_
        simp only [shapeP, txP, noneP, En.mk.injEq]
        grind
  by_cases k3 : kind = 3
  · subst k3
    simp [t79, En.d]
    repeat' split
    all_goals
      refine fin _ _ _ _ _ _ _ _ _ _ _ _ _ _ ?_
      simp only [shapeP, txP, noneP, En.mk.injEq]
      grind
  by_cases k4 : kind = 4
  · subst k4
    simp [t79, En.d]
    repeat' split
    all_goals
      refine fin _ _ _ _ _ _ _ _ _ _ _ _ _ _ ?_
      simp only [shapeP, txP, noneP, En.mk.injEq]
      grind
  by_cases k5 : kind = 5
  · subst k5
    simp [t79, En.d]
    repeat' split
    all_goals
      refine fin _ _ _ _ _ _ _ _ _ _ _ _ _ _ ?_
      simp only [shapeP, txP, noneP, En.mk.injEq]
      grind
  by_cases k6 : kind = 6
  · subst k6
    simp [t79, En.d]
    refine fin _ _ _ _ _ _ _ _ _ _ _ _ _ _ ?_
    simp only [shapeP, txP, noneP, En.mk.injEq]
    grind
  by_cases k7 : kind = 7
  · subst k7
    simp [t79, En.d]
    repeat' split
    all_goals
      refine fin _ _ _ _ _ _ _ _ _ _ _ _ _ _ ?_
      simp only [shapeP, txP, noneP, En.mk.injEq]
      grind
  by_cases k8 : kind = 8
  · subst k8
    simp [t79, En.d]
    refine fin _ _ _ _ _ _ _ _ _ _ _ _ _ _ ?_
    simp only [shapeP, txP, noneP, En.mk.injEq]
    grind
  simp [t79, En.d, k1, k2, k3, k4, k5, k6, k7, k8]
  refine fin _ _ _ _ _ _ _ _ _ _ _ _ _ _ ?_
  simp only [shapeP, txP, noneP, En.mk.injEq]
  grind
end Go.Proofs.Ytdjbjfmgdagcgaa
