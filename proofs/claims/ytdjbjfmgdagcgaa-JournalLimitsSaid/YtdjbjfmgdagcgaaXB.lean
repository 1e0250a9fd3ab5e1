/- The base of this seat's proofs: tables, trees, and what was walked by hand. -/
import Derived.Test.YtdjbjfmgdagcgaaXA
import Derived.Test.YtdjbjfmgdagcgaaXN
import Derived.Test.YtdjbjfmgdagcgaaXFr
namespace Go.Proofs.Ytdjbjfmgdagcgaa
open Go.Fw
set_option maxRecDepth 100000
def putN : List D → Option (List D)
  | [.str s, .int n, .int k] => if s.length + 8 ≤ 140737488355328 then some [.str (putS s n k)] else none
  | _ => none
/-- journal.frames, of no entries. -/
def frN : List D → Option (List D)
  | [.rows []] => some [.str []]
  | _ => none
def natA : Vt := fun f xs => if f = 22 then putN xs else if f = 102 then frN xs else none
def TA : Nat → Option Tree := lookL trees
theorem base : Base K TA natA := base_of rfl rfl chkTab chkSig chkNil chkMix trees_ok fun f xs ys h => by
  unfold natA at h
  split at h
  · rename_i e
    subst e
    refine ⟨?_, rfl, by decide⟩
    unfold putN at h
    split at h
    · split at h
      · rename_i hs
        injection h with h
        subst h
        exact put_ok _ _ _ hs
      · cases h
    · cases h
  · split at h
    · rename_i e
      subst e
      refine ⟨?_, rfl, by decide⟩
      unfold frN at h
      split at h
      · injection h with h
        subst h
        exact frames_ok
      · cases h
    · cases h
/-- A function comes to something with this property. -/
def Get (f : Nat) (xs : List D) (Q : List D → Prop) : Prop := Gets K TA natA f xs Q
theorem get {f : Nat} {t : Tree} (ht : TA f = some t) {xs : List D} {Q : List D → Prop} (h : WP K TA natA [] t xs Q) : Gets K TA natA f xs Q := gets ht h
theorem get_put (s : List UInt8) (n k : Int) (hs : s.length + 8 ≤ 140737488355328) {Q : List D → Prop} (h : Q [.str (putS s n k)]) : Gets K TA natA 22 [.str s, .int n, .int k] Q :=
  ⟨_, .nat (by show natA 22 _ = _; simp only [natA, if_true, putN, if_pos hs]), h⟩
theorem get_frames {Q : List D → Prop} (h : Q [.str []]) : Gets K TA natA 102 [.rows []] Q := ⟨_, .nat (by show natA 102 _ = _; rfl), h⟩
end Go.Proofs.Ytdjbjfmgdagcgaa
