/- Entries: their bytes, over both trees. -/
import Derived.Test.YtdjbjfmgdagcgaaXQk
namespace Go.Proofs.Ytdjbjfmgdagcgaa
open Go.Fw Go.Crc
set_option maxRecDepth 100000
set_option linter.unusedVariables false
set_option linter.unusedSimpArgs false
/-- The bytes of a number. -/
def B (n : Int) (k : Nat) : List UInt8 := (List.range k).map (putB n)
@[simp] theorem B_len (n : Int) (k : Nat) : (B n k).length = k := by simp [B]
theorem put1 (s : List UInt8) (n : Int) : putS s n 1 = s ++ B n 1 := putS_in s n 1 (by omega)
theorem put4 (s : List UInt8) (n : Int) : putS s n 4 = s ++ B n 4 := putS_in s n 4 (by omega)
theorem put8 (s : List UInt8) (n : Int) : putS s n 8 = s ++ B n 8 := putS_in s n 8 (by omega)
def cellB (b : Bool) (d : List UInt8) : List UInt8 := if b = true then B d.length 1 ++ d else B 255 1
def encS (e : En) : List UInt8 := B e.lsn 8 ++ B e.kind 1 ++ B e.tx 4 ++ B e.ptx 8 ++ B e.pp 8 ++ B e.ref 8 ++ B e.page 4 ++ B e.slot 1 ++ cellB e.bs e.bd ++ cellB e.az e.ad ++ B e.blob.length 4 ++ e.blob
theorem cellB_len (b : Bool) (d : List UInt8) (hd : d.length ≤ 12) : 1 ≤ (cellB b d).length ∧ (cellB b d).length ≤ 13 := by
  unfold cellB
  split <;> simp
  omega
theorem validP.cells {e : En} (h : validP e) : e.bd.length ≤ 12 ∧ e.ad.length ≤ 12 ∧ e.blob.length ≤ 8192 ∧ (e.bs = true ∨ e.bd = []) ∧ (e.az = true ∨ e.ad = []) := by
  obtain ⟨h, _⟩ := h
  simp only [shapeP, chgP, cellP, noneP] at h
  grind
theorem get_refCellPut (s : List UInt8) (b : Bool) (d : List UInt8) (hs : s.length + 100 ≤ 140737488355328) (hd : d.length ≤ 12) {Q : List D → Prop} (h : Q [.str (s ++ cellB b d)]) : Gt 67 [.str s, .bool b, .str d] Q := by
  refine get rfl ?_
  cases b
  · simp [t67]
    refine get_refPut s 255 1 (by omega) ⟨rfl, ?_⟩
    simpa [put1, cellB] using h
  · simp [t67]
    refine get_refPut s d.length 1 (by omega) ⟨rfl, ?_⟩
    have ew : IntKind.i64.wrap ((s.length : Int) + 1 + d.length) = s.length + 1 + d.length := wi (by omega)
    simp [put1, ew]
    exact ⟨by omega, by omega, by omega, by simpa [cellB] using h⟩
theorem get_implCellPut (s : List UInt8) (b : Bool) (d : List UInt8) (hs : s.length + 100 ≤ 140737488355328) (hd : d.length ≤ 12) {Q : List D → Prop} (h : Q [.str (s ++ cellB b d)]) : Gt 76 [.str s, .bool b, .str d] Q := by
  refine get rfl ?_
  cases b
  · simp [t76]
    refine get_put s 255 1 (by omega) ⟨rfl, ?_⟩
    simpa [put1, cellB] using h
  · simp [t76]
    refine get_put s d.length 1 (by omega) ⟨rfl, ?_⟩
    have ew : IntKind.i64.wrap ((s.length : Int) + 1 + d.length) = s.length + 1 + d.length := wi (by omega)
    simp [put1, ew]
    exact ⟨by omega, by omega, by omega, by simpa [cellB] using h⟩
theorem get_refEncode (e : En) {Q : List D → Prop} (h0 : ¬ validP e → Q [.str [], .int 12]) (h1 : validP e → Q [.str (encS e), .int 0]) : Gt 39 e.d Q := by
  refine get rfl ?_
  simp only [t39, wp_call]
  refine get_refValid e fun r hr => ⟨rfl, ?_⟩
  cases r
  · simp [En.d]
    exact h0 (by simp [← hr])
  have hv := hr.1 rfl
  obtain ⟨c1, c2, c3, _, _⟩ := hv.cells
  have b1 := cellB_len e.bs e.bd c1
  have b2 := cellB_len e.az e.ad c2
  simp [En.d]
  refine get_refPut [] e.lsn 8 (by simp) ⟨rfl, ?_⟩
  rw [put8]
  refine get_refPut _ e.kind 1 (by simp) ⟨rfl, ?_⟩
  rw [put1]
  refine get_refPut _ e.tx 4 (by simp) ⟨rfl, ?_⟩
  rw [put4]
  refine get_refPut _ e.ptx 8 (by simp) ⟨rfl, ?_⟩
  rw [put8]
  refine get_refPut _ e.pp 8 (by simp) ⟨rfl, ?_⟩
  rw [put8]
  refine get_refPut _ e.ref 8 (by simp) ⟨rfl, ?_⟩
  rw [put8]
  refine get_refPut _ e.page 4 (by simp) ⟨rfl, ?_⟩
  rw [put4]
  refine get_refPut _ e.slot 1 (by simp) ⟨rfl, ?_⟩
  rw [put1]
  refine get_refCellPut _ e.bs e.bd (by simp) c1 ⟨rfl, ?_⟩
  refine get_refCellPut _ e.az e.ad (by simp; omega) c2 ⟨rfl, ?_⟩
  refine get_refPut _ e.blob.length 4 (by simp; omega) ⟨rfl, ?_⟩
  rw [put4]
  have h := h1 hv
  unfold encS at h
  simp at h ⊢
  exact ⟨by rw [wi (by omega)]; omega, by omega, by omega, h⟩
/-- What the loop over three numbers has put. -/
def acc3 (P : List UInt8) (a b c : Int) : Nat → List UInt8
  | 0 => P
  | 1 => P ++ B a 8
  | 2 => P ++ B a 8 ++ B b 8
  | _ => P ++ B a 8 ++ B b 8 ++ B c 8
theorem get_implEncode (e : En) {Q : List D → Prop} (h0 : ¬ validP e → Q [.str [], .int 12]) (h1 : validP e → Q [.str (encS e), .int 0]) : Gt 43 e.d Q := by
  refine get rfl ?_
  simp only [t43, wp_call]
  refine get_implValid e fun r hr => ⟨rfl, ?_⟩
  cases r
  · simp [En.d]
    exact h0 (by simp [← hr])
  have hv := hr.1 rfl
  obtain ⟨c1, c2, c3, _, _⟩ := hv.cells
  have b1 := cellB_len e.bs e.bd c1
  have b2 := cellB_len e.az e.ad c2
  simp [En.d]
  refine get_put [] e.lsn 8 (by simp) ⟨rfl, ?_⟩
  rw [put8]
  refine get_put _ e.kind 1 (by simp) ⟨rfl, ?_⟩
  rw [put1]
  refine get_put _ e.tx 4 (by simp) ⟨rfl, ?_⟩
  rw [put4]
  refine wp_loop_rule (fun r ws => ∃ i : Nat, r + i = 3 ∧ ws = [.str (acc3 ([] ++ B e.lsn 8 ++ B e.kind 1 ++ B e.tx 4) e.ptx e.pp e.ref i), .int i]) ?_ ?_
  · rintro r ws ⟨i, hi, rfl⟩
    have : i = 0 ∨ i = 1 ∨ i = 2 ∨ i = 3 := by omega
    rcases this with rfl | rfl | rfl | rfl
    · simp
      refine get_put _ e.ptx 8 (by simp [acc3]) ⟨rfl, ?_⟩
      rw [put8]
      simp
      exact ⟨r - 1, by omega, 1, by omega, by simp [acc3], rfl⟩
    · simp
      refine get_put _ e.pp 8 (by simp [acc3]) ⟨rfl, ?_⟩
      rw [put8]
      simp
      exact ⟨r - 1, by omega, 2, by omega, by simp [acc3], rfl⟩
    · simp
      refine get_put _ e.ref 8 (by simp [acc3]) ⟨rfl, ?_⟩
      rw [put8]
      simp
      exact ⟨r - 1, by omega, 3, by omega, by simp [acc3], rfl⟩
    · simp
      refine get_put _ e.page 4 (by simp [acc3]) ⟨rfl, ?_⟩
      rw [put4]
      refine get_put _ e.slot 1 (by simp [acc3]) ⟨rfl, ?_⟩
      rw [put1]
      refine get_implCellPut _ e.bs e.bd (by simp [acc3]) c1 ⟨rfl, ?_⟩
      refine get_implCellPut _ e.az e.ad (by simp [acc3]; omega) c2 ⟨rfl, ?_⟩
      refine get_put _ e.blob.length 4 (by simp [acc3]; omega) ⟨rfl, ?_⟩
      rw [put4]
      have h := h1 hv
      unfold encS at h
      simp [acc3] at h ⊢
      exact ⟨by rw [wi (by omega)]; omega, by omega, by omega, h⟩
  · simp
    exact ⟨3, 0, by omega, by simp [acc3], rfl⟩
end Go.Proofs.Ytdjbjfmgdagcgaa
