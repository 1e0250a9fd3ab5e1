/- For every input JournalLimits returns true and leaves its arguments as they were; no condition. -/
import Derived.Test.YtdjbjfmgdagcgaaRows
import Derived.Test.YtdjbjfmgdagcgaaXQs
import Derived.WalkKit
import Derived.ProofKit
namespace Go.Proofs.Ytdjbjfmgdagcgaa.journalLimits
open Go.ChangeShapes Go.WideShapes Go.ChangeAt Go.RowKit Go.Fw
set_option linter.unusedVariables false
theorem own : ownKnob Try.prog.godebug = none := by kernel_rfl
set_option maxRecDepth 100000
theorem lens {α : Type} (ds : List α) (h : ds.length = 2) (P : List α → Prop) (hp : ∀ a1 a2, P [a1, a2]) : P ds := by
  rcases ds with _ | ⟨a1, _ | ⟨a2, _ | ⟨b, ds⟩⟩⟩ <;> first
    | exact hp _ _
    | (exfalso; simp at h; done)
    | (exfalso; simp at h; omega)
theorem lifted (os : Os) (started : os.Started) (H : Type) (enc : TypeId × Value → H) :
    ReturnsInHanded {} Try.checked os 15 .any (Rows.journalLimitsSpec.pre6 enc Try.prog Try.f15 Rows.journalLimitsRow.domain false) (Rows.journalLimitsSpec.post enc Try.prog Try.f15 false true false false) := by
  refine returnsInHanded_of_change_sized (C := Try.checked) own started (by kernel_rfl) Try.func15
    (ChangeSpec.witness6 (enc := enc) (C := Try.checked) false ⟨#[], #[.int .u8 0, .bool false], []⟩ 8 (by kernel_rfl) (by kernel_rfl) (by kernel_rfl) (by kernel_rfl)) ?_
  intro W base args ds gs before hval hW hcnd hsz _
  exact law_row (C := K) Go.Proofs.Ytdjbjfmgdagcgaa.base (f := 15) (fn := Try.f15) (s := Rows.journalLimitsSpec) (tss := [[.int .u8], [.bool]]) (bt := 4) rfl rfl (by kernel_rfl) (by kernel_rfl) (List.all_eq_true.1 (by kernel_rfl)) (fun xs h => law_limits xs h) rfl Try.underlying4 rfl
    (fun ds h => lens ds (h.trans (by kernel_rfl)) (fun ds => Rows.journalLimitsSpec.fn H ds = { results := [.lit (.bool true)], args := ds }) (fun _ _ => rfl)) (by kernel_rfl)
    (fun t ht => by
      have h1 : (Try.f15.params.toList.all fun t => Try.prog.readableRec t && decide (t < Try.prog.types.size)) = true := by kernel_rfl
      have h2 := List.all_eq_true.1 h1 t ht
      simp only [Bool.and_eq_true, decide_eq_true_eq] at h2
      exact h2) hW hval hsz
theorem over : Rows.journalLimitsRow.holds Try.pinned (OpenSpec.ofChange Rows.journalLimitsSpec) :=
  OpenClaim.holds_of_wide 15 Try.f15 rfl rfl rfl rfl rfl rfl rfl ⟨rfl, rfl, rfl, rfl, rfl⟩ rfl rfl rfl rfl rfl (by kernel_rfl) Try.func15 (by kernel_rfl)
    (of_decide_eq_true (by kernel_rfl)) (by unfold Func.isWrapper; first | (rw [if_pos (by decide +kernel)]; kernel_rfl) | (rw [if_neg (by decide +kernel)]; exact ⟨rfl, rfl⟩))
    (fun os started H enc _ => lifted os started H enc)
end Go.Proofs.Ytdjbjfmgdagcgaa.journalLimits
namespace Go.Proofs.Ytdjbjfmgdagcgaa
/-- The row, under a short name, for the claim. -/
theorem journalLimits_holds : Rows.JournalLimitsSaid := journalLimits.over
#print axioms journalLimits_holds
end Go.Proofs.Ytdjbjfmgdagcgaa
