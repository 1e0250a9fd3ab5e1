/- For every input CodecDamage returns true and leaves its arguments as they were; no condition. -/
import Derived.Test.YtdjbjfmgdagcgaaRows
import Derived.Test.YtdjbjfmgdagcgaaXQf
import Derived.WalkKit
import Derived.ProofKit
namespace Go.Proofs.Ytdjbjfmgdagcgaa.codecDamage
open Go.ChangeShapes Go.WideShapes Go.ChangeAt Go.RowKit Go.Fw
set_option linter.unusedVariables false
theorem own : ownKnob Try.prog.godebug = none := by kernel_rfl
set_option maxRecDepth 100000
theorem lens {α : Type} (ds : List α) (h : ds.length = 3) (P : List α → Prop) (hp : ∀ a1 a2 a3, P [a1, a2, a3]) : P ds := by
  rcases ds with _ | ⟨a1, _ | ⟨a2, _ | ⟨a3, _ | ⟨b, ds⟩⟩⟩⟩ <;> first
    | exact hp _ _ _
    | (exfalso; simp at h; done)
    | (exfalso; simp at h; omega)
theorem lifted (os : Os) (started : os.Started) (H : Type) (enc : TypeId × Value → H) :
    ReturnsInHanded {} Try.checked os 8 .any (Rows.codecDamageSpec.pre6 enc Try.prog Try.f8 Rows.codecDamageRow.domain false) (Rows.codecDamageSpec.post enc Try.prog Try.f8 false true false false) := by
  refine returnsInHanded_of_change_sized (C := Try.checked) own started (by kernel_rfl) Try.func8
    (ChangeSpec.witness6 (enc := enc) (C := Try.checked) false ⟨#[], #[.string ⟨#[]⟩, .int .u16 0, .int .u8 0], []⟩ 8 (by kernel_rfl) (by kernel_rfl) (by kernel_rfl) (by kernel_rfl)) ?_
  intro W base args ds gs before hval hW hcnd hsz _
  exact law_row (C := K) Go.Proofs.Ytdjbjfmgdagcgaa.base (f := 8) (fn := Try.f8) (s := Rows.codecDamageSpec) (tss := [[.str], [.int .u16], [.int .u8]]) (bt := 4) rfl rfl (by kernel_rfl) (by kernel_rfl) (List.all_eq_true.1 (by kernel_rfl)) (fun xs h => law_damage xs h) rfl Try.underlying4 rfl
    (fun ds h => lens ds (h.trans (by kernel_rfl)) (fun ds => Rows.codecDamageSpec.fn H ds = { results := [.lit (.bool true)], args := ds }) (fun _ _ _ => rfl)) (by kernel_rfl)
    (fun t ht => by
      have h1 : (Try.f8.params.toList.all fun t => Try.prog.readableRec t && decide (t < Try.prog.types.size)) = true := by kernel_rfl
      have h2 := List.all_eq_true.1 h1 t ht
      simp only [Bool.and_eq_true, decide_eq_true_eq] at h2
      exact h2) hW hval hsz
theorem over : Rows.codecDamageRow.holds Try.pinned (OpenSpec.ofChange Rows.codecDamageSpec) :=
  OpenClaim.holds_of_wide 8 Try.f8 rfl rfl rfl rfl rfl rfl rfl ⟨rfl, rfl, rfl, rfl, rfl⟩ rfl rfl rfl rfl rfl (by kernel_rfl) Try.func8 (by kernel_rfl)
    (of_decide_eq_true (by kernel_rfl)) (by unfold Func.isWrapper; first | (rw [if_pos (by decide +kernel)]; kernel_rfl) | (rw [if_neg (by decide +kernel)]; exact ⟨rfl, rfl⟩))
    (fun os started H enc _ => lifted os started H enc)
end Go.Proofs.Ytdjbjfmgdagcgaa.codecDamage
namespace Go.Proofs.Ytdjbjfmgdagcgaa
/-- The row, under a short name, for the claim. -/
theorem codecDamage_holds : Rows.CodecDamageSaid := codecDamage.over
#print axioms codecDamage_holds
end Go.Proofs.Ytdjbjfmgdagcgaa
