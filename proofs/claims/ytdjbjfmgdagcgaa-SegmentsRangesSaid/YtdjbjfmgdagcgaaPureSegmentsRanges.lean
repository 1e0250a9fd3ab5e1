/- The law SegmentsRanges, over the printed functions: for every byte 'pages' the law answers true. No condition. (There are 256 inputs: each is computed by Lean's kernel.) -/
import Derived.Test.YtdjbjfmgdagcgaaPSegmentsRangesx3
namespace Go.Proofs.Ytdjbjfmgdagcgaa.Pure
open Go.RowKit Go.Proofs.Ytdjbjfmgdagcgaa.PSegmentsRanges Go.Proofs.YtdjbjfmgdagcgaaW.PrintWords Go.Proofs.YtdjbjfmgdagcgaaW.PrintLast

theorem all256 : ∀ n : Fin 256, pagemendlaw34_SegmentsRanges.f 200 ((n.val : Nat) : Int) = some true := by decide +kernel

theorem SegmentsRanges : pagemendlaw34_SegmentsRanges.Pure := by
  intro a0 h
  have h2 : 0 ≤ a0 ∧ a0 ≤ 255 := by
    simpa [Lit.wf, IntKind.min, IntKind.max, IntKind.signed, IntKind.bits] using h
  refine ⟨200, ?_⟩
  have h3 := all256 ⟨a0.toNat, by omega⟩
  simpa [Int.toNat_of_nonneg h2.1] using h3

end Go.Proofs.Ytdjbjfmgdagcgaa.Pure
