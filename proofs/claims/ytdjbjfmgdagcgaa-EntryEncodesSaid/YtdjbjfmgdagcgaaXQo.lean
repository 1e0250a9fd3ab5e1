/- Entries and their bytes: there and back, and of fewer bytes. -/
import Derived.Test.YtdjbjfmgdagcgaaXQn
import Derived.Test.YtdjbjfmgdagcgaaXQe
namespace Go.Proofs.Ytdjbjfmgdagcgaa
open Go.Fw Go.Crc
set_option maxRecDepth 100000
set_option linter.unusedVariables false
set_option linter.unusedSimpArgs false
theorem num_inj2 : ∀ (l m : List UInt8), l.length = m.length → num l = num m → l = m
  | [], [], _, _ => rfl
  | a :: l, b :: m, h, e => by
    simp only [num] at e
    have ha := a.toNat_lt
    have hb := b.toNat_lt
    have h1 : a.toNat = b.toNat := by omega
    have h2 : num l = num m := by omega
    rw [UInt8.toNat.inj h1, num_inj2 l m (by simpa using h) h2]
  | [], _ :: _, h, _ => by simp at h
  | _ :: _, [], h, _ => by simp at h
theorem num_B (n : Int) (k : Nat) : num (B n k) = (IntKind.u64.wrap n).toNat % 256 ^ k := num_put n k
theorem B_num (L : List UInt8) (k : Nat) (hL : L.length = k) (hk : k ≤ 8) : B (IntKind.i64.wrap (num L)) k = L := by
  refine num_inj2 _ _ (by simp [hL]) ?_
  have h1 := num_lt L
  rw [hL] at h1
  have h2 : (256 : Nat) ^ k ≤ 256 ^ 8 := Nat.pow_le_pow_right (by omega) hk
  rw [num_B, wu64, IntKind.wrap_i64]
  have e : (((num L : Nat) : Int) + 9223372036854775808) % 18446744073709551616 - 9223372036854775808 = ((num L : Nat) : Int) ∨ (((num L : Nat) : Int) + 9223372036854775808) % 18446744073709551616 - 9223372036854775808 = ((num L : Nat) : Int) - 18446744073709551616 := by omega
  have e2 : (((((num L : Nat) : Int) + 9223372036854775808) % 18446744073709551616 - 9223372036854775808) % 18446744073709551616).toNat = num L := by omega
  rw [e2, Nat.mod_eq_of_lt h1]
theorem numR_B {s : List UInt8} (pre post : List UInt8) (n : Int) (k a : Nat) (hs : s = pre ++ (B n k ++ post)) (ha : a = pre.length) (hn : 0 ≤ n ∧ n < ((256 ^ k : Nat) : Int) ∧ n < 9223372036854775808) : numR s (a, 0) k = (n, a + k, 0) := by
  subst hs ha
  unfold numR
  rw [if_neg (by simp), if_neg (by simp), List.drop_left, List.take_append_of_le_length (by simp), List.take_of_length_le (by simp), num_B, wu64]
  have e1 : ((n % 18446744073709551616).toNat % 256 ^ k : Nat) = n.toNat := by
    rw [Int.emod_eq_of_lt hn.1 (by omega)]
    exact Nat.mod_eq_of_lt (by omega)
  rw [e1, wi (by omega)]
  congr 1
  omega
theorem txtR_at {s : List UInt8} (pre L post : List UInt8) (k a : Nat) (hs : s = pre ++ (L ++ post)) (ha : a = pre.length) (hL : L.length = k) : txtR s (a, 0) k = (L, a + k, 0) := by
  subst hs ha hL
  unfold txtR
  rw [if_neg (by simp), if_neg (by simp), List.drop_left, List.take_left]
theorem celR_B {s : List UInt8} (pre post : List UInt8) (b : Bool) (d : List UInt8) (a : Nat) (hs : s = pre ++ (cellB b d ++ post)) (ha : a = pre.length) (hd : d.length ≤ 12) (hb : b = true ∨ d = []) : celR s (a, 0) = (b, d, a + (cellB b d).length, 0) := by
  cases b
  · obtain rfl : d = [] := by simpa using hb
    have e := numR_B pre post 255 1 a (by simpa [cellB] using hs) ha (by decide)
    unfold celR
    rw [e]
    simp [cellB]
  · have hs' : s = pre ++ (B d.length 1 ++ (d ++ post)) := by simpa [cellB] using hs
    have e := numR_B pre (d ++ post) d.length 1 a hs' ha (by simp; omega)
    have e2 := txtR_at (pre ++ B d.length 1) d post d.length (a + 1) (by simpa using hs') (by simp [ha]) rfl
    unfold celR
    rw [e]
    have h1 : ¬ ((d.length : Int) = 255) := by omega
    have h2 : ¬ (12 < (d.length : Int)) := by omega
    simp [h1, h2, e2, cellB]
    omega
theorem validP.bounds {e : En} (h : validP e) : (1 ≤ e.lsn ∧ e.lsn ≤ 1099511627776) ∧ (1 ≤ e.kind ∧ e.kind ≤ 8) ∧ (0 ≤ e.tx ∧ e.tx ≤ 1073741824) ∧ (0 ≤ e.ptx ∧ e.ptx < 1099511627776) ∧ (0 ≤ e.pp ∧ e.pp < 1099511627776) ∧ (0 ≤ e.ref ∧ e.ref < 1099511627776) ∧ (0 ≤ e.page ∧ e.page < 64) ∧ (0 ≤ e.slot ∧ e.slot < 16) := by
  obtain ⟨hs, h1, h2, h3, h4, h5⟩ := h
  simp only [shapeP, chgP, noneP, txP] at hs
  simp only [befP] at h3 h4 h5
  refine ⟨⟨by omega, by omega⟩, ?_, ?_, ⟨by omega, by omega⟩, ⟨by omega, by omega⟩, ⟨by omega, by omega⟩, ?_, ?_⟩ <;> grind
/-- There and back. -/
theorem rt (x : En) (h : validP x) : decE (encS x) = x ∧ q12 (encS x) = ((encS x).length, 0) := by
  obtain ⟨b1, b2, b3, b4, b5, b6, b7, b8⟩ := h.bounds
  obtain ⟨c1, c2, c3, c4, c5⟩ := h.cells
  have e1 : r1 (encS x) = (x.lsn, 8, 0) := by
    unfold r1
    
    exact numR_B [] (B x.kind 1 ++ (B x.tx 4 ++ (B x.ptx 8 ++ (B x.pp 8 ++ (B x.ref 8 ++ (B x.page 4 ++ (B x.slot 1 ++ (cellB x.bs x.bd ++ (cellB x.az x.ad ++ (B x.blob.length 4 ++ (x.blob))))))))))) x.lsn 8 0 (by simp [encS]) (by simp) (by omega)
  have f1 : q1 (encS x) = (8, 0) := by unfold q1; rw [e1]
  have e2 : r2 (encS x) = (x.kind, 9, 0) := by
    unfold r2
    rw [f1]
    exact numR_B (B x.lsn 8) (B x.tx 4 ++ (B x.ptx 8 ++ (B x.pp 8 ++ (B x.ref 8 ++ (B x.page 4 ++ (B x.slot 1 ++ (cellB x.bs x.bd ++ (cellB x.az x.ad ++ (B x.blob.length 4 ++ (x.blob)))))))))) x.kind 1 8 (by simp [encS]) (by simp) (by omega)
  have f2 : q2 (encS x) = (9, 0) := by unfold q2; rw [e2]
  have e3 : r3 (encS x) = (x.tx, 13, 0) := by
    unfold r3
    rw [f2]
    exact numR_B (B x.lsn 8 ++ B x.kind 1) (B x.ptx 8 ++ (B x.pp 8 ++ (B x.ref 8 ++ (B x.page 4 ++ (B x.slot 1 ++ (cellB x.bs x.bd ++ (cellB x.az x.ad ++ (B x.blob.length 4 ++ (x.blob))))))))) x.tx 4 9 (by simp [encS]) (by simp) (by omega)
  have f3 : q3 (encS x) = (13, 0) := by unfold q3; rw [e3]
  have e4 : r4 (encS x) = (x.ptx, 21, 0) := by
    unfold r4
    rw [f3]
    exact numR_B (B x.lsn 8 ++ B x.kind 1 ++ B x.tx 4) (B x.pp 8 ++ (B x.ref 8 ++ (B x.page 4 ++ (B x.slot 1 ++ (cellB x.bs x.bd ++ (cellB x.az x.ad ++ (B x.blob.length 4 ++ (x.blob)))))))) x.ptx 8 13 (by simp [encS]) (by simp) (by omega)
  have f4 : q4 (encS x) = (21, 0) := by unfold q4; rw [e4]
  have e5 : r5 (encS x) = (x.pp, 29, 0) := by
    unfold r5
    rw [f4]
    exact numR_B (B x.lsn 8 ++ B x.kind 1 ++ B x.tx 4 ++ B x.ptx 8) (B x.ref 8 ++ (B x.page 4 ++ (B x.slot 1 ++ (cellB x.bs x.bd ++ (cellB x.az x.ad ++ (B x.blob.length 4 ++ (x.blob))))))) x.pp 8 21 (by simp [encS]) (by simp) (by omega)
  have f5 : q5 (encS x) = (29, 0) := by unfold q5; rw [e5]
  have e6 : r6 (encS x) = (x.ref, 37, 0) := by
    unfold r6
    rw [f5]
    exact numR_B (B x.lsn 8 ++ B x.kind 1 ++ B x.tx 4 ++ B x.ptx 8 ++ B x.pp 8) (B x.page 4 ++ (B x.slot 1 ++ (cellB x.bs x.bd ++ (cellB x.az x.ad ++ (B x.blob.length 4 ++ (x.blob)))))) x.ref 8 29 (by simp [encS]) (by simp) (by omega)
  have f6 : q6 (encS x) = (37, 0) := by unfold q6; rw [e6]
  have e7 : r7 (encS x) = (x.page, 41, 0) := by
    unfold r7
    rw [f6]
    exact numR_B (B x.lsn 8 ++ B x.kind 1 ++ B x.tx 4 ++ B x.ptx 8 ++ B x.pp 8 ++ B x.ref 8) (B x.slot 1 ++ (cellB x.bs x.bd ++ (cellB x.az x.ad ++ (B x.blob.length 4 ++ (x.blob))))) x.page 4 37 (by simp [encS]) (by simp) (by omega)
  have f7 : q7 (encS x) = (41, 0) := by unfold q7; rw [e7]
  have e8 : r8 (encS x) = (x.slot, 42, 0) := by
    unfold r8
    rw [f7]
    exact numR_B (B x.lsn 8 ++ B x.kind 1 ++ B x.tx 4 ++ B x.ptx 8 ++ B x.pp 8 ++ B x.ref 8 ++ B x.page 4) (cellB x.bs x.bd ++ (cellB x.az x.ad ++ (B x.blob.length 4 ++ (x.blob)))) x.slot 1 41 (by simp [encS]) (by simp) (by omega)
  have f8 : q8 (encS x) = (42, 0) := by unfold q8; rw [e8]
  have e9 : r9 (encS x) = (x.bs, x.bd, 42 + (cellB x.bs x.bd).length, 0) := by
    unfold r9
    rw [f8]
    exact celR_B (B x.lsn 8 ++ B x.kind 1 ++ B x.tx 4 ++ B x.ptx 8 ++ B x.pp 8 ++ B x.ref 8 ++ B x.page 4 ++ B x.slot 1) (cellB x.az x.ad ++ (B x.blob.length 4 ++ (x.blob))) x.bs x.bd 42 (by simp [encS]) (by simp) c1 c4
  have f9 : q9 (encS x) = (42 + (cellB x.bs x.bd).length, 0) := by unfold q9; rw [e9]
  have e10 : r10 (encS x) = (x.az, x.ad, 42 + (cellB x.bs x.bd).length + (cellB x.az x.ad).length, 0) := by
    unfold r10
    rw [f9]
    exact celR_B (B x.lsn 8 ++ B x.kind 1 ++ B x.tx 4 ++ B x.ptx 8 ++ B x.pp 8 ++ B x.ref 8 ++ B x.page 4 ++ B x.slot 1 ++ cellB x.bs x.bd) (B x.blob.length 4 ++ (x.blob)) x.az x.ad _ (by simp [encS]) (by simp; omega) c2 c5
  have f10 : q10 (encS x) = (42 + (cellB x.bs x.bd).length + (cellB x.az x.ad).length, 0) := by unfold q10; rw [e10]
  have e11 : r11 (encS x) = ((x.blob.length : Int), 42 + (cellB x.bs x.bd).length + (cellB x.az x.ad).length + 4, 0) := by
    unfold r11
    rw [f10]
    exact numR_B (B x.lsn 8 ++ B x.kind 1 ++ B x.tx 4 ++ B x.ptx 8 ++ B x.pp 8 ++ B x.ref 8 ++ B x.page 4 ++ B x.slot 1 ++ cellB x.bs x.bd ++ cellB x.az x.ad) x.blob x.blob.length 4 _ (by simp [encS]) (by simp; omega) (by omega)
  have f11 : q11 (encS x) = (42 + (cellB x.bs x.bd).length + (cellB x.az x.ad).length + 4, 0) := by unfold q11; rw [e11]
  have e12 : r12 (encS x) = (x.blob, 42 + (cellB x.bs x.bd).length + (cellB x.az x.ad).length + 4 + x.blob.length, 0) := by
    unfold r12
    rw [f11, e11]
    exact txtR_at (B x.lsn 8 ++ B x.kind 1 ++ B x.tx 4 ++ B x.ptx 8 ++ B x.pp 8 ++ B x.ref 8 ++ B x.page 4 ++ B x.slot 1 ++ cellB x.bs x.bd ++ cellB x.az x.ad ++ B x.blob.length 4) x.blob [] x.blob.length _ (by simp [encS]) (by simp; omega) rfl
  refine ⟨?_, ?_⟩
  · unfold decE
    rw [e1, e2, e3, e4, e5, e6, e7, e8, e9, e10, e12]
  · unfold q12
    rw [e12]
    simp [encS]
    omega
theorem dec_enc (x : En) (h : validP x) {y : En} {e : Int} (hd : DecP (encS x) y e) : y = x ∧ e = 0 := by
  obtain ⟨h1, h2⟩ := rt x h
  refine hd.one (.inr (.inr (.inr ⟨by rw [h2], by rw [h2], by rw [h1]; exact h, h1.symm, rfl⟩)))
theorem numR_inv (s : List UInt8) (p : Nat × Int) (k : Nat) (hk : k ≤ 8) (h : (numR s p k).2.2 = 0) : p.2 = 0 ∧ s.take (numR s p k).2.1 = s.take p.1 ++ B (numR s p k).1 k := by
  unfold numR at h ⊢
  split at h
  · rename_i h1; exact absurd h h1
  · rename_i h1
    split at h
    · simp at h
    · rename_i h2
      refine ⟨by simpa using h1, ?_⟩
      rw [if_neg h1, if_neg h2]
      simp only
      rw [B_num _ k (by simp; omega) hk, List.take_add]
theorem txtR_inv (s : List UInt8) (p : Nat × Int) (k : Nat) (h : (txtR s p k).2.2 = 0) : p.2 = 0 ∧ s.take (txtR s p k).2.1 = s.take p.1 ++ (txtR s p k).1 ∧ (txtR s p k).1.length = k := by
  unfold txtR at h ⊢
  split at h
  · rename_i h1; exact absurd h h1
  · rename_i h1
    split at h
    · simp at h
    · rename_i h2
      refine ⟨by simpa using h1, ?_⟩
      rw [if_neg h1, if_neg h2]
      simp only
      exact ⟨List.take_add, by simp; omega⟩
theorem celR_inv (s : List UInt8) (p : Nat × Int) (h : (celR s p).2.2.2 = 0) : p.2 = 0 ∧ s.take (celR s p).2.2.1 = s.take p.1 ++ cellB (celR s p).1 (celR s p).2.1 := by
  have hr := numR_range s p 1 (by omega)
  unfold celR at h ⊢
  simp only at h ⊢
  by_cases h1 : (numR s p 1).2.2 = 0
  case neg => rw [if_pos h1] at h; exact absurd h h1
  obtain ⟨i1, i2⟩ := numR_inv s p 1 (by omega) h1
  refine ⟨i1, ?_⟩
  rw [if_neg (by simp [h1])] at h ⊢
  by_cases h2 : (numR s p 1).1 = 255
  · rw [if_pos h2, i2, h2]
    simp [cellB]
  rw [if_neg h2] at h ⊢
  by_cases h3 : 12 < (numR s p 1).1
  · rw [if_pos h3] at h; simp at h
  rw [if_neg h3] at h ⊢
  simp only at h ⊢
  obtain ⟨j1, j2, j3⟩ := txtR_inv s _ _ h
  have e : ((numR s p 1).1.toNat : Int) = (numR s p 1).1 := Int.toNat_of_nonneg hr.1
  simp only [cellB, if_true]
  rw [j2, i2, j3, e, List.append_assoc]
/-- Bytes that mean an entry are its bytes. -/
theorem enc_dec (s : List UInt8) {y : En} (hd : DecP s y 0) : validP y ∧ encS y = s := by
  unfold DecP at hd
  rcases hd with ⟨h, _, h'⟩ | ⟨_, _, _, h⟩ | ⟨_, _, _, _, h⟩ | ⟨h0, hl, hv, rfl, _⟩
  · exact absurd h'.symm h
  · simp at h
  · simp at h
  refine ⟨hv, ?_⟩
  obtain ⟨z11, t12, l12⟩ := txtR_inv s (q11 s) (r11 s).1.toNat h0
  obtain ⟨z10, t11⟩ := numR_inv s (q10 s) 4 (by omega) z11
  obtain ⟨z9, t10⟩ := celR_inv s (q9 s) z10
  obtain ⟨z8, t9⟩ := celR_inv s (q8 s) z9
  obtain ⟨z7, t8⟩ := numR_inv s (q7 s) 1 (by omega) z8
  obtain ⟨z6, t7⟩ := numR_inv s (q6 s) 4 (by omega) z7
  obtain ⟨z5, t6⟩ := numR_inv s (q5 s) 8 (by omega) z6
  obtain ⟨z4, t5⟩ := numR_inv s (q4 s) 8 (by omega) z5
  obtain ⟨z3, t4⟩ := numR_inv s (q3 s) 8 (by omega) z4
  obtain ⟨z2, t3⟩ := numR_inv s (q2 s) 4 (by omega) z3
  obtain ⟨z1, t2⟩ := numR_inv s (q1 s) 1 (by omega) z2
  obtain ⟨z0, t1⟩ := numR_inv s q0 8 (by omega) z1
  have hr := numR_range s (q10 s) 4 (by omega)
  have e4 : (((decE s).blob).length : Int) = (r11 s).1 := by
    show (((txtR s (q11 s) (r11 s).1.toNat).1).length : Int) = _
    rw [l12]
    exact Int.toNat_of_nonneg hr.1
  have e : s.take (q12 s).1 = encS (decE s) := by
    unfold encS
    rw [e4]
    show s.take (txtR s (q11 s) (r11 s).1.toNat).2.1 = _
    rw [t12]
    show s.take (numR s (q10 s) 4).2.1 ++ _ = _
    rw [t11]
    show s.take (celR s (q9 s)).2.2.1 ++ _ ++ _ = _
    rw [t10]
    show s.take (celR s (q8 s)).2.2.1 ++ _ ++ _ ++ _ = _
    rw [t9]
    show s.take (numR s (q7 s) 1).2.1 ++ _ ++ _ ++ _ ++ _ = _
    rw [t8]
    show s.take (numR s (q6 s) 4).2.1 ++ _ ++ _ ++ _ ++ _ ++ _ = _
    rw [t7]
    show s.take (numR s (q5 s) 8).2.1 ++ _ ++ _ ++ _ ++ _ ++ _ ++ _ = _
    rw [t6]
    show s.take (numR s (q4 s) 8).2.1 ++ _ ++ _ ++ _ ++ _ ++ _ ++ _ ++ _ = _
    rw [t5]
    show s.take (numR s (q3 s) 8).2.1 ++ _ ++ _ ++ _ ++ _ ++ _ ++ _ ++ _ ++ _ = _
    rw [t4]
    show s.take (numR s (q2 s) 4).2.1 ++ _ ++ _ ++ _ ++ _ ++ _ ++ _ ++ _ ++ _ ++ _ = _
    rw [t3]
    show s.take (numR s (q1 s) 1).2.1 ++ _ ++ _ ++ _ ++ _ ++ _ ++ _ ++ _ ++ _ ++ _ ++ _ = _
    rw [t2]
    show s.take (numR s q0 8).2.1 ++ _ ++ _ ++ _ ++ _ ++ _ ++ _ ++ _ ++ _ ++ _ ++ _ ++ _ = _
    rw [t1]
    rfl
  rw [← e, hl, List.take_length]
theorem numR_pre (s : List UInt8) (m : Nat) (p p' : Nat × Int) (k : Nat) (hp : p' = p ∨ p'.2 = 5) (h : (numR s p k).2.2 = 0) : numR (s.take m) p' k = numR s p k ∨ (numR (s.take m) p' k).2.2 = 5 := by
  rcases hp with rfl | hp
  · have h0 := h
    unfold numR at h ⊢
    split at h
    · rename_i h1; exact absurd h h1
    · rename_i h1
      rw [if_neg h1, if_neg h1]
      split at h
      · simp at h
      · rename_i h2
        rw [if_neg h2]
        by_cases h3 : (s.take m).length < p'.1 + k
        · rw [if_pos h3]; exact .inr rfl
        · rw [if_neg h3]
          left
          have : p'.1 + k ≤ m := by simp at h3; omega
          rw [List.drop_take, List.take_take, Nat.min_eq_left (by omega)]
  · right
    unfold numR
    rw [if_pos (by rw [hp]; decide)]
    exact hp
theorem txtR_pre (s : List UInt8) (m : Nat) (p p' : Nat × Int) (k k' : Nat) (hp : (p' = p ∧ k' = k) ∨ p'.2 = 5) (h : (txtR s p k).2.2 = 0) : txtR (s.take m) p' k' = txtR s p k ∨ (txtR (s.take m) p' k').2.2 = 5 := by
  rcases hp with ⟨rfl, rfl⟩ | hp
  · have h0 := h
    unfold txtR at h ⊢
    split at h
    · rename_i h1; exact absurd h h1
    · rename_i h1
      rw [if_neg h1, if_neg h1]
      split at h
      · simp at h
      · rename_i h2
        rw [if_neg h2]
        by_cases h3 : (s.take m).length < p'.1 + k'
        · rw [if_pos h3]; exact .inr rfl
        · rw [if_neg h3]
          left
          have : p'.1 + k' ≤ m := by simp at h3; omega
          rw [List.drop_take, List.take_take, Nat.min_eq_left (by omega)]
  · right
    unfold txtR
    rw [if_pos (by rw [hp]; decide)]
    exact hp
theorem celR_pre (s : List UInt8) (m : Nat) (p p' : Nat × Int) (hp : p' = p ∨ p'.2 = 5) (h : (celR s p).2.2.2 = 0) : celR (s.take m) p' = celR s p ∨ (celR (s.take m) p').2.2.2 = 5 := by
  unfold celR at h ⊢
  simp only at h ⊢
  by_cases h1 : (numR s p 1).2.2 = 0
  case neg => rw [if_pos h1] at h; exact absurd h h1
  rcases numR_pre s m p p' 1 hp h1 with e | e
  · rw [e]
    have hn : ¬ ((numR s p 1).2.2 ≠ 0) := by simp [h1]
    simp only [if_neg hn] at h ⊢
    by_cases h2 : (numR s p 1).1 = 255
    · left; simp only [if_pos h2]
    by_cases h3 : 12 < (numR s p 1).1
    · simp only [if_neg h2, if_pos h3] at h; simp at h
    simp only [if_neg h2, if_neg h3] at h ⊢
    rcases txtR_pre s m _ _ _ _ (.inl ⟨rfl, rfl⟩) h with e2 | e2
    · left; rw [e2]
    · right; exact e2
  · right
    rw [if_pos (by rw [e]; decide)]
    exact e
/-- Fewer bytes than those of an entry end too early. -/
theorem dec_short (x : En) (h : validP x) (m : Nat) (hm : m < (encS x).length) {y : En} {e : Int} (hd : DecP ((encS x).take m) y e) : e = 5 := by
  obtain ⟨h1, h2⟩ := rt x h
  have z12 : (q12 (encS x)).2 = 0 := by rw [h2]
  generalize encS x = s at *
  have z11 := (txtR_inv s (q11 s) (r11 s).1.toNat z12).1
  have z10 := (numR_inv s (q10 s) 4 (by omega) z11).1
  have z9 := (celR_inv s (q9 s) z10).1
  have z8 := (celR_inv s (q8 s) z9).1
  have z7 := (numR_inv s (q7 s) 1 (by omega) z8).1
  have z6 := (numR_inv s (q6 s) 4 (by omega) z7).1
  have z5 := (numR_inv s (q5 s) 8 (by omega) z6).1
  have z4 := (numR_inv s (q4 s) 8 (by omega) z5).1
  have z3 := (numR_inv s (q3 s) 8 (by omega) z4).1
  have z2 := (numR_inv s (q2 s) 4 (by omega) z3).1
  have z1 := (numR_inv s (q1 s) 1 (by omega) z2).1
  have nx : ∀ {a b : Int × Nat × Int}, a = b ∨ a.2.2 = 5 → a.2 = b.2 ∨ a.2.2 = 5 := fun h => h.imp (fun h => by rw [h]) id
  have nc : ∀ {a b : Bool × List UInt8 × Nat × Int}, a = b ∨ a.2.2.2 = 5 → a.2.2 = b.2.2 ∨ a.2.2.2 = 5 := fun h => h.imp (fun h => by rw [h]) id
  have g1 := nx (numR_pre s m q0 q0 8 (.inl rfl) z1)
  have g2 := nx (numR_pre s m (q1 s) (q1 (s.take m)) 1 g1 z2)
  have g3 := nx (numR_pre s m (q2 s) (q2 (s.take m)) 4 g2 z3)
  have g4 := nx (numR_pre s m (q3 s) (q3 (s.take m)) 8 g3 z4)
  have g5 := nx (numR_pre s m (q4 s) (q4 (s.take m)) 8 g4 z5)
  have g6 := nx (numR_pre s m (q5 s) (q5 (s.take m)) 8 g5 z6)
  have g7 := nx (numR_pre s m (q6 s) (q6 (s.take m)) 4 g6 z7)
  have g8 := nx (numR_pre s m (q7 s) (q7 (s.take m)) 1 g7 z8)
  have g9 := nc (celR_pre s m (q8 s) (q8 (s.take m)) g8 z9)
  have g10 := nc (celR_pre s m (q9 s) (q9 (s.take m)) g9 z10)
  have g11 := numR_pre s m (q10 s) (q10 (s.take m)) 4 g10 z11
  have g12 := txtR_pre s m (q11 s) (q11 (s.take m)) (r11 s).1.toNat (r11 (s.take m)).1.toNat (g11.imp (fun h => by
    have h' : r11 (s.take m) = r11 s := h
    exact ⟨congrArg (·.2) h', by rw [h']⟩) id) z12
  have g : (q12 (s.take m)).2 = 5 := by
    rcases g12 with g | g
    · exfalso
      have h3 := q12_le (s.take m)
      have h4 : (q12 (s.take m)).1 = s.length := by
        have : q12 (s.take m) = q12 s := congrArg (·.2) g
        rw [this, h2]
      rw [h4] at h3
      simp at h3
      omega
    · exact g
  unfold DecP at hd
  rw [g] at hd
  rcases hd with h | h | h | h
  · exact h.2.2
  · exact absurd h.1 (by decide)
  · exact absurd h.1 (by decide)
  · exact absurd h.1 (by decide)
end Go.Proofs.Ytdjbjfmgdagcgaa
