/- journal.frames of no entries. -/
import Derived.Test.YtdjbjfmgdagcgaaXBld
import Derived.Test.YtdjbjfmgdagcgaaXC
import Derived.Test.YtdjbjfmgdagcgaaFM4
import Derived.BigCall
import Derived.LoopTactic
import Derived.Outline
import Derived.IntWalk
import Derived.Lib.Hide
namespace Go.Fw
open Go.RowKit
/-- A function that is walked by hand, and that leaves memory as it was. -/
theorem callOk_walk {C : Cx} {f : Nat} {sg : Sig} {xs ys : List D} {vs : List (SV D)} {vals : List Value} {nss : List (List Name × Option Name)} (G : List Value → Prop) (hsg : C.sig f = some sg) (hent : ∀ args w, (callFunc f args).run C.P w = .ok (.enter f args) w) (hbox : boxPKs sg.params = [])
    (hbv : ∀ vs, boxVals sg.params vs = []) (hrb : resBack nmE 0 (sg.params.map PK.asRK) xs = some (vs, [], [])) (hargs : ∀ w S h μ cargs, SVsRep C w S h μ vs cargs → G cargs) (hn : srcNames nss = []) (hres : ∀ w S h μ, ArgsRep C w S h μ (sg.results.map RK.asPK) ys vals nss)
    (hcall : ∀ cargs w, G cargs → Calls C.P f cargs.toArray w fun e w' => e = .returned (tupV vals) ∧ Below w.heap.size w w') : CallOk C f xs ys := by
  intro sg' hsg'
  rw [hsg] at hsg'
  injection hsg' with hsg'
  subst hsg'
  refine ⟨hent, fun vs' u hvs w S μ cargs H hv => ?_⟩
  rw [hrb] at hvs
  injection hvs with hvs
  simp only [Prod.mk.injEq, and_true] at hvs
  obtain ⟨rfl, rfl⟩ := hvs
  refine (hcall cargs w (hargs _ _ _ _ _ hv)).mono fun e w' he => ?_
  obtain ⟨rfl, hb⟩ := he
  refine ⟨vals, _, μ, _, nss, rfl, H.below hb, by rw [hn]; exact .nil, fun n hm => ?_, ?_⟩
  · have : n ∈ srcNames nss := List.mem_append.2 (.inl hm)
    rw [hn] at this
    cases this
  · rw [hbox, hbv, List.append_nil, List.append_nil]
    exact hres _ _ _ _
end Go.Fw
namespace Go.Proofs.Ytdjbjfmgdagcgaa
open Go.RowKit Go.Fw
set_option linter.unusedVariables false
set_option maxHeartbeats 4000000 in
set_option maxRecDepth 1000000 in
theorem frames_empty (A : Option Addr) (c : Nat) (w : World) :
    Calls Try.prog 102 #[.slice A 0 c] w fun e w' => e = .returned (.string ⟨#[]⟩) ∧ Below w.heap.size w w' := by
  go_enter Try.func102, Try.ntmps102
  go_wp2
  go_loopw [10] (fun v wr => v = .int .i64 0 ∧ Lib.IsBuilder 86 5 w.heap.size w.heap.size (Lib.byteCells []) wr ∧ Below w.heap.size w wr) (fun v _ => 0)
  case atStart => exact ⟨rfl, Lib.fresh_isBuilder 86 5 w, (Below.refl _ w).alloc (Nat.le_refl _) _⟩
  case round =>
    obtain ⟨rfl, hI, hbw⟩ := hrel
    have hsz := hbw.size
    go_wp2_with (go_at_call 57; refine (Try.Builder_String_any w.heap.size w.heap.size _ _ hI hsz).mono ?_; rintro e W2 ⟨rfl, hw2⟩)
    go_ret
    exact ⟨rfl, hbw.trans hw2⟩
theorem frames_ok : CallOk K 102 [.rows []] [.str []] := by
  refine callOk_walk (C := K) (f := 102) (sg := ⟨[.val false [(.sl 66, false)]], [.val false [(.str, false)]]⟩) (vs := [.c (.d (.sl 66) (.rows []))])
    (vals := [.string ⟨#[]⟩]) (nss := [([], none)]) (fun cs => ∃ A c, cs = [.slice A 0 c]) rfl (enters_body Try.func102 (by kernel_rfl) (by kernel_rfl)) rfl (fun vs => ?_) rfl (fun w S h μ cargs hv => ?_) rfl (fun w S h μ => ?_) (fun cargs w hG => ?_)
  · match vs with
    | [] => rfl
    | [_] => rfl
    | _ :: _ :: _ => rfl
  · cases hv with
    | cons _ _ v1 _ h1 hv =>
    cases hv
    cases h1 with
    | c _ _ _ hc =>
      cases hc with
      | d _ _ _ hr =>
        cases hr with
        | nil e A c => exact ⟨A, c, rfl⟩
        | sl e ts rows b o c cells ht hs hn hc hr hl => exact absurd rfl hn
  · exact .one _ _ _ _ _ _ _ _ (.d .str (.str []) [.string ⟨#[]⟩] [] [] [] [] (.str _) .nil) .nil rfl
  · obtain ⟨A, c, rfl⟩ := hG
    exact frames_empty A c w
end Go.Proofs.Ytdjbjfmgdagcgaa
