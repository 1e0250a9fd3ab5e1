/- What was walked by hand, as contracts; the tables of this seat's trees. -/
import Derived.Test.YtdjbjfmgdagcgaaXPut
import Derived.Test.YtdjbjfmgdagcgaaXC
import Derived.Test.YtdjbjfmgdagcgaaFM4
namespace Go.Proofs.Ytdjbjfmgdagcgaa
open Go.Fw Go.RowKit
set_option linter.unusedVariables false
theorem put_ok (s : List UInt8) (n k : Int) (hs : s.length + 8 ≤ 140737488355328) : CallOk K 22 [.str s, .int n, .int k] [.str (putS s n k)] := by
  refine callOk_plain (C := K) (f := 22) (sg := ⟨[.val false [(.str, false)], .val false [(.int .i64, false)], .val false [(.int .i64, false)]], [.val false [(.str, false)]]⟩) (vs := [.c (.d .str (.str s)), .c (.d (.int .i64) (.int n)), .c (.d (.int .i64) (.int k))])
    (cvals := [.string ⟨s.toArray⟩, .int .i64 n, .int .i64 k]) (vals := [.string ⟨(putS s n k).toArray⟩]) (nss := [([], none)]) rfl (enters_body Try.func22 (by kernel_rfl) (by kernel_rfl)) rfl (fun vs => ?_) rfl (fun w S h μ cargs hv => ?_) rfl (fun w S h μ => ?_) (fun w => ?_)
  · match vs with
    | [] => rfl
    | [_] => rfl
    | [_, _] => rfl
    | _ :: _ :: _ :: _ => rfl
  · cases hv with
    | cons _ _ v1 _ h1 hv =>
    cases hv with
    | cons _ _ v2 _ h2 hv =>
    cases hv with
    | cons _ _ v3 _ h3 hv =>
    cases hv
    obtain ⟨_, e1, rfl⟩ := h1.strv
    obtain ⟨_, e2, rfl⟩ := h2.intv
    obtain ⟨_, e3, rfl⟩ := h3.intv
    injection e1 with e1
    injection e2 with e2
    injection e3 with e3
    rw [e1, e2, e3]
  · exact .one _ _ _ _ _ _ _ _ (.d .str (.str (putS s n k)) [.string ⟨(putS s n k).toArray⟩] [] [] [] [] (.str _) .nil) .nil rfl
  · have hb : (⟨s.toArray⟩ : ByteArray).data.toList = s := by simp
    by_cases hk : 1 ≤ k ∧ k ≤ 8
    · refine (put_in ⟨s.toArray⟩ n k w (by show s.toArray.size + 8 ≤ _; simpa using hs) hk.1 hk.2).mono fun e w' he => ?_
      rw [hb] at he
      have : putS s n k = s ++ (List.range k.toNat).map (putB n) := by unfold putS; rw [if_pos hk]
      rw [this]
      exact he
    · refine (put_out ⟨s.toArray⟩ n k w (by omega)).mono fun e w' he => ?_
      have : putS s n k = s := by unfold putS; rw [if_neg hk]
      rw [this]
      exact he
end Go.Proofs.Ytdjbjfmgdagcgaa
