/- codec.Put: what it returns, and that nothing that was there turns. -/
import Derived.Test.YtdjbjfmgdagcgaaXBld
import Derived.BigCall
import Derived.LoopTactic
import Derived.Outline
import Derived.IntWalk
import Derived.Lib.Hide
namespace Go.Proofs.Ytdjbjfmgdagcgaa
open Go.RowKit
set_option linter.unusedVariables false
/-- A byte of a number. -/
def putB (n : Int) (i : Nat) : UInt8 := UInt8.ofNat ((IntKind.u64.wrap n).toNat / 2 ^ (8 * i))
theorem putB_int (n : Int) (i : Nat) : ((putB n i).toNat : Int) = IntKind.u64.wrap n / 2 ^ (8 * i) % 256 := by
  have e : IntKind.u64.wrap n = n % 18446744073709551616 := by
    have h1 : IntKind.u64.signed = false := rfl
    have h2 : IntKind.u64.bits = 64 := rfl
    simp [IntKind.wrap, h1, h2]
  have h0 : 0 ≤ IntKind.u64.wrap n := by rw [e]; omega
  obtain ⟨m, hm⟩ := Int.eq_ofNat_of_zero_le h0
  unfold putB
  rw [hm]
  simp
def putS (s : List UInt8) (n k : Int) : List UInt8 := if 1 ≤ k ∧ k ≤ 8 then s ++ (List.range k.toNat).map (putB n) else s
set_option maxHeartbeats 4000000 in
set_option maxRecDepth 1000000 in
theorem put_out (s : ByteArray) (n k : Int) (w : World) (hk : k < 1 ∨ 8 < k) :
    Calls Try.prog 22 #[.string s, .int .i64 n, .int .i64 k] w fun e w' => e = .returned (.string s) ∧ Below w.heap.size w w' := by
  go_enter Try.func22, Try.ntmps22
  rcases hk with hk | hk
  · go_wp2
    go_ret
    exact ⟨rfl, Below.refl _ _⟩
  · have : ¬ k < 1 := by omega
    go_wp2
    go_ret
    exact ⟨rfl, Below.refl _ _⟩
set_option maxHeartbeats 4000000 in
set_option maxRecDepth 1000000 in
theorem put_in (s : ByteArray) (n k : Int) (w : World) (hs : s.size + 8 ≤ 140737488355328) (h1 : 1 ≤ k) (h8 : k ≤ 8) :
    Calls Try.prog 22 #[.string s, .int .i64 n, .int .i64 k] w fun e w' => e = .returned (.string ⟨(s.data.toList ++ (List.range k.toNat).map (putB n)).toArray⟩) ∧ Below w.heap.size w w' := by
  have hk1 : ¬ k < 1 := by omega
  have hk8 : ¬ 8 < k := by omega
  go_enter Try.func22, Try.ntmps22
  go_wp2_with (go_at_call 55; refine (writeString w.heap.size w.heap.size [] s _ (Lib.fresh_isBuilder 86 5 w) (by simp; omega) (by simp)).mono ?_; rintro e W1 ⟨rfl, hb1, hw1⟩)
  have hB0 : Lib.IsBuilder 86 5 w.heap.size w.heap.size (Lib.byteCells s.data.toList) W1 := .inr hb1
  have hz := Lib.hid hb1
  clear hb1
  have hw0 : Below w.heap.size w W1 := ((Below.refl _ w).alloc (Nat.le_refl _) _).trans hw1
  go_loopw [19] (fun v wr => ∃ j : Nat, (j : Int) ≤ k ∧ v = .int .i64 j ∧ Lib.IsBuilder 86 5 w.heap.size w.heap.size (Lib.byteCells (s.data.toList ++ (List.range j).map (putB n))) wr ∧ Below w.heap.size w wr) (fun v _ => (k - intOf v).toNat)
  case atStart => exact ⟨0, by omega, rfl, by simpa using hB0, hw0⟩
  case round =>
    obtain ⟨j, hj, rfl, hI, hbw⟩ := hrel
    have hsz := hbw.size
    by_cases hlt : (j : Int) < k
    · have h8j : (8 : Int) * j ≤ 64 := by omega
      go_wp2_with (go_at_call 56; refine (writeByte w.heap.size w.heap.size _ _ _ hI (by rw [Lib.byteCells_length]; simp; omega) hsz).mono ?_; rintro e W2 ⟨rfl, hb2, hw2⟩)
      go_roundw
      case rel =>
        refine ⟨j + 1, by omega, by go_num, .inr ?_, hbw.trans hw2⟩
        rw [List.range_succ, List.map_append, ← List.append_assoc, Lib.byteCells_append]
        have e : Lib.byteCells (List.map (putB n) [j]) = [Value.int .u8 (IntKind.u64.wrap n / 2 ^ (8 * j) % 256)] := by
          simp only [List.map_cons, List.map_nil, Lib.byteCells, putB_int]
        rw [e]
        exact hb2
      case measure => simp [intOf]; omega
    · go_wp2_with (go_at_call 57; refine (Try.Builder_String_any w.heap.size w.heap.size _ _ hI hsz).mono ?_; rintro e W2 ⟨rfl, hw2⟩)
      go_ret
      have : j = k.toNat := by omega
      subst this
      exact ⟨rfl, hbw.trans hw2⟩
end Go.Proofs.Ytdjbjfmgdagcgaa
