/- For every input CodecFrames returns true and leaves its arguments as they were; no condition. -/
import Derived.Test.YtdjbjfmgdagcgaaRows
import Derived.Test.YtdjbjfmgdagcgaaXQh
import Derived.WalkKit
import Derived.ProofKit
namespace Go.Proofs.Ytdjbjfmgdagcgaa.codecFrames
open Go.ChangeShapes Go.WideShapes Go.ChangeAt Go.RowKit Go.Fw
set_option linter.unusedVariables false
theorem own : ownKnob Try.prog.godebug = none := by kernel_rfl
set_option maxRecDepth 100000
theorem lens {α : Type} (ds : List α) (h : ds.length = 4) (P : List α → Prop) (hp : ∀ a1 a2 a3 a4, P [a1, a2, a3, a4]) : P ds := by
  rcases ds with _ | ⟨a1, _ | ⟨a2, _ | ⟨a3, _ | ⟨a4, _ | ⟨b, ds⟩⟩⟩⟩⟩ <;> first
    | exact hp _ _ _ _
    | (exfalso; simp at h; done)
    | (exfalso; simp at h; omega)
theorem lifted (os : Os) (started : os.Started) (H : Type) (enc : TypeId × Value → H) :
    ReturnsInHanded {} Try.checked os 7 .any (Rows.codecFramesSpec.pre6 enc Try.prog Try.f7 Rows.codecFramesRow.domain false) (Rows.codecFramesSpec.post enc Try.prog Try.f7 false true false false) := by
  refine returnsInHanded_of_change_sized (C := Try.checked) own started (by kernel_rfl) Try.func7
    (ChangeSpec.witness6 (enc := enc) (C := Try.checked) false ⟨#[], #[.slice none 0 0, .string ⟨#[]⟩, .int .i64 0, .int .u8 0], []⟩ 8 (by kernel_rfl) (by kernel_rfl) (by kernel_rfl) (by kernel_rfl)) ?_
  intro W base args ds gs before hval hW hcnd hsz _
  exact law_row (C := K) Go.Proofs.Ytdjbjfmgdagcgaa.base (f := 7) (fn := Try.f7) (s := Rows.codecFramesSpec) (tss := [[.sl 5], [.str], [.int .i64], [.int .u8]]) (bt := 4) rfl rfl (by kernel_rfl) (by kernel_rfl) (List.all_eq_true.1 (by kernel_rfl)) (fun xs h => law_frames xs h) rfl Try.underlying4 rfl
    (fun ds h => lens ds (h.trans (by kernel_rfl)) (fun ds => Rows.codecFramesSpec.fn H ds = { results := [.lit (.bool true)], args := ds }) (fun _ _ _ _ => rfl)) (by kernel_rfl)
    (fun t ht => by
      have h1 : (Try.f7.params.toList.all fun t => Try.prog.readableRec t && decide (t < Try.prog.types.size)) = true := by kernel_rfl
      have h2 := List.all_eq_true.1 h1 t ht
      simp only [Bool.and_eq_true, decide_eq_true_eq] at h2
      exact h2) hW hval hsz
theorem over : Rows.codecFramesRow.holds Try.pinned (OpenSpec.ofChange Rows.codecFramesSpec) :=
  OpenClaim.holds_of_wide 7 Try.f7 rfl rfl rfl rfl rfl rfl rfl ⟨rfl, rfl, rfl, rfl, rfl⟩ rfl rfl rfl rfl rfl (by kernel_rfl) Try.func7 (by kernel_rfl)
    (of_decide_eq_true (by kernel_rfl)) (by unfold Func.isWrapper; first | (rw [if_pos (by decide +kernel)]; kernel_rfl) | (rw [if_neg (by decide +kernel)]; exact ⟨rfl, rfl⟩))
    (fun os started H enc _ => lifted os started H enc)
end Go.Proofs.Ytdjbjfmgdagcgaa.codecFrames
namespace Go.Proofs.Ytdjbjfmgdagcgaa
/-- The row, under a short name, for the claim. -/
theorem codecFrames_holds : Rows.CodecFramesSaid := codecFrames.over
#print axioms codecFrames_holds
end Go.Proofs.Ytdjbjfmgdagcgaa
