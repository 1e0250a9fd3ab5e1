/- The statement CodecDamage over trees. -/
import Derived.Test.YtdjbjfmgdagcgaaXQe
namespace Go.Proofs.Ytdjbjfmgdagcgaa
open Go.Fw Go.Crc
set_option maxRecDepth 100000
set_option linter.unusedVariables false
set_option linter.unusedSimpArgs false
theorem unframe_parts (L p S r : List UInt8) (hL : L.length = 4) (hn : num L = p.length) (hp : p.length ≤ 8392) (hS : S.length = 4) :
    unframeN (L ++ p ++ S ++ r) 0 = if num S ≠ (crc (L ++ p)).toNat then bad 3 else [.str p, .int ((8 + p.length : Nat) : Int), .int 0] := by
  unfold unframeN
  have e1 : ((L ++ p ++ S ++ r).drop 0).take 4 = L := by
    rw [List.drop_zero, List.append_assoc, List.append_assoc, ← hL, List.take_left]
  rw [e1, hn]
  have hlen : (L ++ p ++ S ++ r).length = 8 + p.length + r.length := by simp [hL, hS]; omega
  rw [hlen, if_neg (by omega), if_neg (by omega), if_neg (by omega)]
  have e2 : (L ++ p ++ S ++ r).drop (0 + 4 + p.length) = S ++ r := by
    have : 0 + 4 + p.length = (L ++ p).length := by simp [hL]
    rw [this, List.append_assoc, List.drop_left]
  have e3 : ((L ++ p ++ S ++ r).drop 0).take (4 + p.length) = L ++ p := by
    have : 4 + p.length = (L ++ p).length := by simp [hL]
    rw [List.drop_zero, List.append_assoc, this, List.take_left]
  have e4 : (S ++ r).take 4 = S := by rw [← hS, List.take_left]
  have e5 : ((L ++ p ++ S ++ r).drop (0 + 4)).take p.length = p := by
    have : 0 + 4 = L.length := by omega
    rw [this, List.append_assoc, List.append_assoc, List.drop_left, List.take_left]
  rw [e2, e3, e4, e5]
theorem num_inj : ∀ (l m : List UInt8), l.length = m.length → num l = num m → l = m
  | [], [], _, _ => rfl
  | a :: l, b :: m, h, e => by
    simp only [num] at e
    have ha := a.toNat_lt
    have hb := b.toNat_lt
    have h1 : a.toNat = b.toNat := by omega
    have h2 : num l = num m := by omega
    rw [UInt8.toNat.inj h1, num_inj l m (by simpa using h) h2]
  | [], _ :: _, h, _ => by simp at h
  | _ :: _, [], h, _ => by simp at h
theorem frame_parts (p : List UInt8) (hp : p.length ≤ 8392) : ∃ L S, frameS p = L ++ p ++ S ∧ L.length = 4 ∧ num L = p.length ∧ S.length = 4 ∧ num S = (crc (L ++ p)).toNat := by
  refine ⟨(List.range 4).map (putB p.length), (List.range 4).map (putB (bv (crc ((List.range 4).map (putB p.length) ++ p)))), ?_, by simp, ?_, by simp, ?_⟩
  · unfold frameS
    rw [if_neg (by omega)]
    have e1 : putS [] (p.length : Int) 4 = (List.range 4).map (putB p.length) := by
      rw [show (4 : Int) = ((4 : Nat) : Int) from rfl, putS_in _ _ 4 (by omega), List.nil_append]
    rw [e1, show (4 : Int) = ((4 : Nat) : Int) from rfl, putS_in _ _ 4 (by omega)]
  · rw [num_put, wu64]; omega
  · rw [num_put, wu64]
    have := (crc ((List.range 4).map (putB p.length) ++ p)).isLt
    unfold bv
    omega
/-- A byte put in another's place. -/
def put1 (s : List UInt8) (k : Nat) (x : UInt8) : List UInt8 := s.take k ++ x :: s.drop (k + 1)
theorem put1_append_left (s t : List UInt8) (k : Nat) (hk : k < s.length) (x : UInt8) : put1 (s ++ t) k x = put1 s k x ++ t := by
  unfold put1
  rw [List.take_append_of_le_length (by omega), List.drop_append_of_le_length (by omega), List.append_assoc, List.cons_append]
theorem put1_append_right (s t : List UInt8) (k : Nat) (x : UInt8) : put1 (s ++ t) (s.length + k) x = s ++ put1 t k x := by
  unfold put1
  rw [List.take_length_add_append, Nat.add_assoc, List.drop_length_add_append, List.append_assoc]
theorem put1_len (s : List UInt8) (k : Nat) (hk : k < s.length) (x : UInt8) : (put1 s k x).length = s.length := by
  unfold put1; simp; omega
theorem put1_ne (s : List UInt8) (k : Nat) (hk : k < s.length) (x : UInt8) (hx : x ≠ s[k]) : put1 s k x ≠ s := by
  intro h
  have : (put1 s k x)[k]? = s[k]? := by rw [h]
  unfold put1 at this
  rw [List.getElem?_append_right (by simp; omega), List.length_take, Nat.min_eq_left (by omega), Nat.sub_self, List.getElem?_cons_zero, List.getElem?_eq_getElem hk] at this
  injection this with this
  exact hx this
theorem crc_put1 (a p : List UInt8) (k : Nat) (hk : k < p.length) (x : UInt8) (hx : x ≠ p[k]) : crc (a ++ put1 p k x) ≠ crc (a ++ p) := by
  intro h
  have e1 : a ++ put1 p k x = (a ++ p.take k) ++ [x] ++ p.drop (k + 1) := by unfold put1; simp
  have e2 : a ++ p = (a ++ p.take k) ++ [p[k]] ++ p.drop (k + 1) := by
    conv => lhs; rw [← List.take_append_drop k p, List.drop_eq_getElem_cons hk]
    simp
  rw [e1, e2] at h
  have := crc_burst (a ++ p.take k) (p.drop (k + 1)) [x] [p[k]] rfl (by simp) h
  simp at this
  exact hx this
theorem unframe_changed (p : List UInt8) (hp : p.length ≤ 8392) (k : Nat) (hk : 4 ≤ k) (hk2 : k < (frameS p).length) (x : UInt8) (hx : x ≠ (frameS p)[k]) : unframeN (put1 (frameS p) k x) 0 = bad 3 := by
  obtain ⟨L, S, hf, hL, hn, hS, hc⟩ := frame_parts p hp
  have hlen : (frameS p).length = 8 + p.length := by rw [hf]; simp [hL, hS]; omega
  by_cases h : k < 4 + p.length
  · obtain ⟨i, rfl⟩ : ∃ i, k = 4 + i := ⟨k - 4, by omega⟩
    have hi : i < p.length := by omega
    have hxi : x ≠ p[i] := by
      have e : (frameS p)[4 + i] = p[i] := by
        simp only [hf]
        rw [List.getElem_append_left (by simp [hL]; omega), List.getElem_append_right (by omega)]
        congr 1
        omega
      rwa [e] at hx
    have e1 : put1 (frameS p) (4 + i) x = L ++ put1 p i x ++ S ++ [] := by
      rw [hf, put1_append_left _ _ _ (by simp [hL]; omega), ← hL, put1_append_right, List.append_nil]
    rw [e1, unframe_parts L _ S [] hL (by rw [put1_len p i hi]; exact hn) (by rw [put1_len p i hi]; exact hp) hS, if_pos]
    rw [hc]
    intro he
    exact crc_put1 L p i hi x hxi (BitVec.eq_of_toNat_eq he.symm)
  · obtain ⟨i, rfl⟩ : ∃ i, k = (L ++ p).length + i := ⟨k - (4 + p.length), by simp [hL]; omega⟩
    have hLp : (L ++ p).length = 4 + p.length := by simp [hL]
    have hi : i < S.length := by omega
    have hxi : x ≠ S[i] := by
      have e : (frameS p)[(L ++ p).length + i] = S[i] := by
        simp only [hf]
        rw [List.getElem_append_right (by omega)]
        congr 1
        omega
      rwa [e] at hx
    have e1 : put1 (frameS p) ((L ++ p).length + i) x = L ++ p ++ put1 S i x ++ [] := by
      rw [hf, put1_append_right, List.append_nil]
    rw [e1, unframe_parts L p _ [] hL hn hp (by rw [put1_len S i hi]; exact hS), if_pos]
    rw [← hc]
    intro he
    exact put1_ne S i hi x hxi (num_inj _ _ (put1_len S i hi x) he)
theorem unframe_frame (p : List UInt8) (hp : p.length ≤ 8392) : unframeN (frameS p) 0 = [.str p, .int ((8 + p.length : Nat) : Int), .int 0] ∧ (frameS p).length = 8 + p.length := by
  obtain ⟨L, S, hf, hL, hn, hS, hc⟩ := frame_parts p hp
  refine ⟨?_, by rw [hf]; simp [hL, hS]; omega⟩
  have e1 : frameS p = L ++ p ++ S ++ [] := by rw [hf, List.append_nil]
  rw [e1, unframe_parts L p S [] hL hn hp hS, if_neg (by rw [hc]; simp)]
theorem unframe_short (p : List UInt8) (hp : p.length ≤ 8392) (k : Nat) (hk : 4 ≤ k) (hk2 : k < 8 + p.length) : unframeN ((frameS p).take k) 0 = bad 5 := by
  obtain ⟨L, S, hf, hL, hn, hS, hc⟩ := frame_parts p hp
  have hlen : (frameS p).length = 8 + p.length := by rw [hf]; simp [hL, hS]; omega
  unfold unframeN
  have e1 : (((frameS p).take k).drop 0).take 4 = L := by
    rw [List.drop_zero, List.take_take, Nat.min_eq_left (by omega), hf, List.append_assoc, ← hL, List.take_left]
  rw [e1, hn]
  have hl2 : ((frameS p).take k).length = k := by rw [List.length_take, hlen]; omega
  rw [hl2, if_neg (by omega), if_neg (by omega), if_pos (by omega)]
theorem xor_u8 (a : UInt8) (b : Int) (hb : 0 ≤ b ∧ b < 256) (hb0 : b ≠ 0) : UInt8.ofNat (bits .xor .u8 (a.toNat : Int) b).toNat ≠ a := by
  obtain ⟨c, rfl⟩ := Int.eq_ofNat_of_zero_le hb.1
  have h1 : bits .xor .u8 (a.toNat : Int) (c : Int) = ((a.toNat ^^^ c : Nat) : Int) := by
    show IntKind.u8.wrap (((BitVec.ofInt 8 (a.toNat : Int) ^^^ BitVec.ofInt 8 (c : Int)).toNat : Nat) : Int) = _
    rw [BitVec.ofInt_natCast, BitVec.ofInt_natCast, BitVec.toNat_xor, BitVec.toNat_ofNat, BitVec.toNat_ofNat, Nat.mod_eq_of_lt (by exact a.toNat_lt), Nat.mod_eq_of_lt (by omega), wu8]
    have := Nat.xor_lt_two_pow (n := 8) a.toNat_lt (show c < 2 ^ 8 by omega)
    omega
  rw [h1]
  intro he
  have h2 := congrArg UInt8.toNat he
  rw [Int.toNat_natCast, UInt8.toNat_ofNat', Nat.mod_eq_of_lt (Nat.xor_lt_two_pow (n := 8) a.toNat_lt (show c < 2 ^ 8 by omega))] at h2
  have h3 : a.toNat ^^^ (a.toNat ^^^ c) = a.toNat ^^^ a.toNat := by rw [h2]
  rw [← Nat.xor_assoc, Nat.xor_self, Nat.zero_xor] at h3
  exact hb0 (by rw [h3]; rfl)
theorem law_damage (xs : List D) (h : DTs K [.str, .int .u16, .int .u8] xs) : Gt 8 xs (· = [.bool true]) := by
  obtain ⟨_, _, rfl, h0, h⟩ := dts_cons h
  obtain ⟨_, _, rfl, h1, h⟩ := dts_cons h
  obtain ⟨_, _, rfl, h2, h⟩ := dts_cons h
  obtain rfl := dts_nil h
  obtain ⟨p, rfl, hp⟩ := dt_str h0
  obtain ⟨a, rfl, ha⟩ := dt_int h1
  obtain ⟨y, rfl, hy⟩ := dt_int h2
  have ha := u16b ha
  have hy := u8b hy
  clear h0 h1 h2
  refine get rfl ?_
  simp only [t8, wp_call]
  refine get_awake1 ⟨rfl, ?_⟩
  by_cases hl : (500 : Int) < p.length
  · simp [hl]
  by_cases hy0 : y = 0
  · simp [hl, hy0]
  obtain ⟨hu, hlen⟩ := unframe_frame p (by omega)
  have ea : IntKind.i64.wrap a = a := wi (by omega)
  have hm := Int.tmod_eq_emod_of_nonneg ha.1 (b := ((p.length : Int) + 4))
  have hm0 := Int.emod_nonneg a (b := (p.length : Int) + 4) (by omega)
  have hm1 := Int.emod_lt_of_pos a (b := (p.length : Int) + 4) (by omega)
  obtain ⟨k, hk, hk4, hk8⟩ : ∃ k : Nat, 4 + a.tmod ((p.length : Int) + 4) = (k : Int) ∧ 4 ≤ k ∧ k < 8 + p.length := ⟨(4 + a.tmod ((p.length : Int) + 4)).toNat, by omega, by omega, by omega⟩
  have ek : IntKind.i64.wrap (4 + a.tmod ((p.length : Int) + 4)) = k := by rw [hk]; exact wi (by omega)
  have el : ((8 + p.length : Nat) : Int) = 8 + (p.length : Int) := by omega
  have el2 : IntKind.i64.wrap (8 + (p.length : Int) - 4) = p.length + 4 := by rw [show 8 + (p.length : Int) - 4 = p.length + 4 by omega]; exact wi (by omega)
  have el3 : IntKind.i64.wrap ((p.length : Int) + 8) = 8 + p.length := by rw [Int.add_comm]; exact wi (by omega)
  have ek1 : IntKind.i64.wrap ((k : Int) + 1) = k + 1 := wi (by omega)
  simp [hl, hy0]
  refine get_codecFrame p (by omega) ⟨rfl, ?_⟩
  have hidx : (frameS p)[k]?.getD 0 = (frameS p)[k]'(by omega) := by rw [List.getElem?_eq_getElem (by omega)]; rfl
  simp [hlen, el2, el3, ea, ek, ek1, hidx]
  have hT : (8 + (p.length : Int)).toNat = 8 + p.length := by omega
  have hmin : min k (8 + p.length) = k := by omega
  have hx := xor_u8 ((frameS p)[k]'(by omega)) y hy hy0
  rw [hT, hmin, List.take_of_length_le (i := 8 + p.length) (l := frameS p) (by omega)]
  have w1 : IntKind.i64.wrap ((k : Int) + 1 + ((8 + p.length - (k + 1) : Nat) : Int)) = 8 + p.length := by rw [wi (by omega)]; omega
  rw [ek1, w1]
  refine ⟨by omega, by omega, by omega, by omega, by omega, by omega, by omega, by omega, by omega, by omega, by omega, ?_⟩
  have un : ∀ s : List UInt8, unframeS s 0 = unframeN s 0 := fun s => by unfold unframeS; rw [if_neg (by omega)]; rfl
  have e0 : ∀ (s : List UInt8) (k : Nat) (x : UInt8), List.take k s ++ x :: List.drop (k + 1) s = put1 s k x := fun _ _ _ => rfl
  rw [e0]
  generalize UInt8.ofNat (bits .xor .u8 (((frameS p)[k]'(by omega)).toNat : Int) y).toNat = X at hx ⊢
  refine get_codecUnframe (put1 (frameS p) k X) 0 (by rw [put1_len _ _ (by omega)]; omega) (by omega) ?_
  rw [un, unframe_changed p (by omega) k hk4 (by omega) _ hx]
  refine ⟨rfl, by omega, ?_⟩
  refine get_codecUnframe ((frameS p).take k) 0 (by simp; omega) (by omega) ?_
  rw [un, unframe_short p (by omega) k hk4 hk8]
  refine ⟨rfl, ?_⟩
  refine get_codecUnframe (frameS p) 0 (by omega) (by omega) ?_
  rw [un, hu]
  refine ⟨rfl, ?_⟩
  simp [bad]
end Go.Proofs.Ytdjbjfmgdagcgaa
