/- Drawn entries; the statements EntryEncodes, EntryDecodes and EntrySizes. -/
import Derived.Test.YtdjbjfmgdagcgaaXQm
namespace Go.Proofs.Ytdjbjfmgdagcgaa
open Go.Fw Go.Crc
set_option maxRecDepth 100000
set_option linter.unusedVariables false
set_option linter.unusedSimpArgs false
theorem bor {b : Bool} {s : List UInt8} (h : b = false → s = []) : b = true ∨ s = [] := by
  cases b
  · exact .inr (h rfl)
  · exact .inl rfl
/-- What a drawn entry is. -/
def drawnP (e : En) : Prop := 10 ≤ e.lsn ∧ validP e
set_option maxHeartbeats 4000000 in
theorem get_entry (l : List (List D)) (a : Int) (hc : CO l a) {Q : List D → Prop} (h : ∀ (e : En) a', drawnP e → CO l a' → Q (e.d ++ [.rows l, .int a'])) : Gt 40 [.rows l, .int a] Q := by
  refine get rfl (WPn.wp ?_)
  have fin : ∀ (lsn kind tx ptx pp ref page slot : Int) (bs : Bool) (bd : List UInt8) (az : Bool) (ad blob : List UInt8) (a' : Int), drawnP ⟨lsn, kind, tx, ptx, pp, ref, page, slot, bs, bd, az, ad, blob⟩ → CO l a' →
      Q [.int lsn, .int kind, .int tx, .int ptx, .int pp, .int ref, .int page, .int slot, .bool bs, .str bd, .bool az, .str ad, .str blob, .rows l, .int a'] := fun _ _ _ _ _ _ _ _ _ _ _ _ _ a' h1 h2 => h ⟨_, _, _, _, _, _, _, _, _, _, _, _, _⟩ a' h1 h2
  simp only [t40, wpn_call]
  refine get_next l a 90 hc fun x a1 hx0 _ hx1 _ h1 => ⟨rfl, ?_⟩
  refine get_next l a1 8 h1 fun k a2 hk0 _ hk1 _ h2 => ⟨rfl, ?_⟩
  have hx := hx1 (by omega)
  have hk := hk1 (by omega)
  have ex : IntKind.i64.wrap (10 + x) = 10 + x := wi (by omega)
  have : k = 0 ∨ k = 1 ∨ k = 2 ∨ k = 3 ∨ k = 4 ∨ k = 5 ∨ k = 6 ∨ k = 7 := by omega
  clear hk0 hk1 hx1 hk
  have w1 : IntKind.i64.wrap 1 = 1 := rfl
  have w2 : IntKind.i64.wrap 2 = 2 := rfl
  have w3 : IntKind.i64.wrap 3 = 3 := rfl
  have w4 : IntKind.i64.wrap 4 = 4 := rfl
  have w5 : IntKind.i64.wrap 5 = 5 := rfl
  have w6 : IntKind.i64.wrap 6 = 6 := rfl
  have w7 : IntKind.i64.wrap 7 = 7 := rfl
  have w8 : IntKind.i64.wrap 8 = 8 := rfl
  rcases this with rfl | rfl | rfl | rfl | rfl | rfl | rfl | rfl
  · simp [ex, w1]
    refine get_next l a2 5 h2 fun t a3 ht0 _ ht1 _ h3 => ⟨rfl, ?_⟩
    simp
    refine get_next l a3 9 h3 fun u a4 hu0 _ hu1 _ h4 => ⟨rfl, ?_⟩
    simp
    refine get_next l a4 10 h4 fun v a5 hv0 _ hv1 _ h5 => ⟨rfl, ?_⟩
    simp
    refine get_change l a5 h5 fun p n b s c t' a6 hp0 hp1 hn0 hn1 hs0 hs1 ht0' ht1' h6 => ⟨rfl, ?_⟩
    have ht := ht1 (by omega)
    have hu := hu1 (by omega)
    have hv := hv1 (by omega)
    have et : IntKind.i64.wrap (1 + t) = 1 + t := wi (by omega)
    have eu : IntKind.i64.wrap (1 + u) = 1 + u := wi (by omega)
    have hb : b = true ∨ s = [] := bor hs1
    have hb' : c = true ∨ t' = [] := bor ht1'
    simp [ex, et, eu, w1]
    refine fin _ _ _ _ _ _ _ _ _ _ _ _ _ _ ?_ h6
    refine ⟨by simp; omega, .inl ⟨rfl, ⟨⟨hp0, by simp; omega⟩, ⟨hn0, by simp; omega⟩, ⟨hs0, hb⟩, ⟨ht0', hb'⟩⟩, rfl, ⟨by simp; omega, by simp; omega⟩, rfl⟩, by simp; omega, by simp; omega, ⟨by simp; omega, by simp; omega⟩, ⟨by simp; omega, by simp; omega⟩, ⟨by simp, by simp; omega⟩⟩
  · simp [ex, w2]
    refine get_next l a2 5 h2 fun t a3 ht0 _ ht1 _ h3 => ⟨rfl, ?_⟩
    simp
    refine get_next l a3 9 h3 fun u a4 hu0 _ hu1 _ h4 => ⟨rfl, ?_⟩
    simp
    refine get_next l a4 10 h4 fun v a5 hv0 _ hv1 _ h5 => ⟨rfl, ?_⟩
    simp
    refine get_change l a5 h5 fun p n b s c t' a6 hp0 hp1 hn0 hn1 hs0 hs1 ht0' ht1' h6 => ⟨rfl, ?_⟩
    have ht := ht1 (by omega)
    have hu := hu1 (by omega)
    have hv := hv1 (by omega)
    have et : IntKind.i64.wrap (1 + t) = 1 + t := wi (by omega)
    have eu : IntKind.i64.wrap (1 + u) = 1 + u := wi (by omega)
    have hb : b = true ∨ s = [] := bor hs1
    have hb' : c = true ∨ t' = [] := bor ht1'
    simp [ex, et, eu, w2]
    refine get_next l a6 (1 + u) h6 fun g a7 hg0 _ hg1 _ h7 => ⟨rfl, ?_⟩
    have hg := hg1 (by omega)
    have eg : IntKind.i64.wrap (1 + g) = 1 + g := wi (by omega)
    simp [ex, et, eu, eg, w2]
    refine fin _ _ _ _ _ _ _ _ _ _ _ _ _ _ ?_ h7
    refine ⟨by simp; omega, .inr (.inl ⟨rfl, ⟨⟨hp0, by simp; omega⟩, ⟨hn0, by simp; omega⟩, ⟨hs0, hb⟩, ⟨ht0', hb'⟩⟩, by simp; omega, by simp; omega, by simp; omega, ⟨by simp; omega, by simp; omega⟩, rfl⟩), by simp; omega, by simp; omega, ⟨by simp; omega, by simp; omega⟩, ⟨by simp; omega, by simp; omega⟩, ⟨by simp; omega, by simp; omega⟩⟩
  · simp [ex, w3]
    refine get_next l a2 5 h2 fun t a3 ht0 _ ht1 _ h3 => ⟨rfl, ?_⟩
    simp
    refine get_next l a3 9 h3 fun u a4 hu0 _ hu1 _ h4 => ⟨rfl, ?_⟩
    have ht := ht1 (by omega)
    have hu := hu1 (by omega)
    have et : IntKind.i64.wrap (1 + t) = 1 + t := wi (by omega)
    have eu : IntKind.i64.wrap (1 + u) = 1 + u := wi (by omega)
    simp [ex, et, eu, w3]
    refine fin _ _ _ _ _ _ _ _ _ _ _ _ _ _ ?_ h4
    refine ⟨by simp; omega, .inr (.inr (.inl ⟨by simp, ⟨by simp; omega, by simp; omega⟩, by simp; omega, rfl, rfl, rfl, ⟨rfl, rfl, rfl, rfl, rfl⟩, rfl⟩)), by simp; omega, by simp; omega, ⟨by simp; omega, by simp; omega⟩, ⟨by simp, by simp; omega⟩, ⟨by simp, by simp; omega⟩⟩
  · simp [ex, w4]
    refine get_next l a2 5 h2 fun t a3 ht0 _ ht1 _ h3 => ⟨rfl, ?_⟩
    simp
    refine get_next l a3 9 h3 fun u a4 hu0 _ hu1 _ h4 => ⟨rfl, ?_⟩
    have ht := ht1 (by omega)
    have hu := hu1 (by omega)
    have et : IntKind.i64.wrap (1 + t) = 1 + t := wi (by omega)
    have eu : IntKind.i64.wrap (1 + u) = 1 + u := wi (by omega)
    simp [ex, et, eu, w4]
    refine fin _ _ _ _ _ _ _ _ _ _ _ _ _ _ ?_ h4
    refine ⟨by simp; omega, .inr (.inr (.inl ⟨by simp, ⟨by simp; omega, by simp; omega⟩, by simp; omega, rfl, rfl, rfl, ⟨rfl, rfl, rfl, rfl, rfl⟩, rfl⟩)), by simp; omega, by simp; omega, ⟨by simp; omega, by simp; omega⟩, ⟨by simp, by simp; omega⟩, ⟨by simp, by simp; omega⟩⟩
  · simp [ex, w5]
    refine get_next l a2 5 h2 fun t a3 ht0 _ ht1 _ h3 => ⟨rfl, ?_⟩
    simp
    refine get_next l a3 9 h3 fun u a4 hu0 _ hu1 _ h4 => ⟨rfl, ?_⟩
    have ht := ht1 (by omega)
    have hu := hu1 (by omega)
    have et : IntKind.i64.wrap (1 + t) = 1 + t := wi (by omega)
    have eu : IntKind.i64.wrap (1 + u) = 1 + u := wi (by omega)
    simp [ex, et, eu, w5]
    refine fin _ _ _ _ _ _ _ _ _ _ _ _ _ _ ?_ h4
    refine ⟨by simp; omega, .inr (.inr (.inl ⟨by simp, ⟨by simp; omega, by simp; omega⟩, by simp; omega, rfl, rfl, rfl, ⟨rfl, rfl, rfl, rfl, rfl⟩, rfl⟩)), by simp; omega, by simp; omega, ⟨by simp; omega, by simp; omega⟩, ⟨by simp, by simp; omega⟩, ⟨by simp, by simp; omega⟩⟩
  · simp [ex, w6]
    refine get_data l a2 h2 fun s a3 hs0 h3 => ⟨rfl, ?_⟩
    simp [ex, w6]
    refine fin _ _ _ _ _ _ _ _ _ _ _ _ _ _ ?_ h3
    refine ⟨by simp; omega, .inr (.inr (.inr (.inl ⟨by simp, rfl, rfl, rfl, rfl, rfl, ⟨rfl, rfl, rfl, rfl, rfl⟩, by simp; omega⟩))), by simp; omega, by simp; omega, ⟨by simp, by simp; omega⟩, ⟨by simp, by simp; omega⟩, ⟨by simp, by simp; omega⟩⟩
  · simp [ex, w7]
    refine get_next l a2 4 h2 fun t a3 ht0 _ ht1 _ h3 => ⟨rfl, ?_⟩
    simp
    refine get_next l a3 10 h3 fun u a4 hu0 _ hu1 _ h4 => ⟨rfl, ?_⟩
    have ht := ht1 (by omega)
    have hu := hu1 (by omega)
    simp [ex, w7]
    refine fin _ _ _ _ _ _ _ _ _ _ _ _ _ _ ?_ h4
    refine ⟨by simp; omega, .inr (.inr (.inr (.inr ⟨rfl, rfl, rfl, rfl, ⟨rfl, rfl, rfl, rfl, rfl⟩, rfl, ht0, by simp; omega⟩))), by simp; omega, by simp; omega, ⟨by simp, by simp; omega⟩, ⟨by simp, by simp; omega⟩, ⟨by simp; omega, by simp; omega⟩⟩
  · simp [ex, w8]
    refine get_data l a2 h2 fun s a3 hs0 h3 => ⟨rfl, ?_⟩
    simp [ex, w8]
    refine fin _ _ _ _ _ _ _ _ _ _ _ _ _ _ ?_ h3
    refine ⟨by simp; omega, .inr (.inr (.inr (.inl ⟨by simp, rfl, rfl, rfl, rfl, rfl, ⟨rfl, rfl, rfl, rfl, rfl⟩, by simp; omega⟩))), by simp; omega, by simp; omega, ⟨by simp, by simp; omega⟩, ⟨by simp, by simp; omega⟩, ⟨by simp, by simp; omega⟩⟩
set_option maxHeartbeats 4000000 in
theorem get_oddEntry (l : List (List D)) (a : Int) (e : En) (hc : CO l a) {Q : List D → Prop} (h : ∀ (o : En) a', CO l a' → Q (o.d ++ [.rows l, .int a'])) : Gt 46 ([.rows l, .int a] ++ e.d) Q := by
  refine get rfl ?_
  have fin : ∀ (lsn kind tx ptx pp ref page slot : Int) (bs : Bool) (bd : List UInt8) (az : Bool) (ad blob : List UInt8) (a' : Int), CO l a' →
      Q [.int lsn, .int kind, .int tx, .int ptx, .int pp, .int ref, .int page, .int slot, .bool bs, .str bd, .bool az, .str ad, .str blob, .rows l, .int a'] := fun _ _ _ _ _ _ _ _ _ _ _ _ _ a' h2 => h ⟨_, _, _, _, _, _, _, _, _, _, _, _, _⟩ a' h2
  simp only [t46, wp_call, En.d, List.cons_append, List.nil_append]
  refine get_next l a 9 hc fun k a1 hk0 _ hk1 _ h1 => ⟨rfl, ?_⟩
  have hk := hk1 (by omega)
  have : k = 0 ∨ k = 1 ∨ k = 2 ∨ k = 3 ∨ k = 4 ∨ k = 5 ∨ k = 6 ∨ k = 7 ∨ k = 8 := by omega
  clear hk0 hk1 hk
  rcases this with rfl | rfl | rfl | rfl | rfl | rfl | rfl | rfl | rfl
  · simp
    refine get_int l a1 h1 fun x a2 h2 => ⟨rfl, ?_⟩
    simp
    exact fin _ _ _ _ _ _ _ _ _ _ _ _ _ _ h2
  · simp
    refine get_next l a1 11 h1 fun x a2 _ _ _ _ h2 => ⟨rfl, ?_⟩
    simp
    exact fin _ _ _ _ _ _ _ _ _ _ _ _ _ _ h2
  · simp
    refine get_int l a1 h1 fun x a2 h2 => ⟨rfl, ?_⟩
    simp
    exact fin _ _ _ _ _ _ _ _ _ _ _ _ _ _ h2
  · simp
    refine get_int l a1 h1 fun x a2 h2 => ⟨rfl, ?_⟩
    simp
    exact fin _ _ _ _ _ _ _ _ _ _ _ _ _ _ h2
  · simp
    refine get_int l a1 h1 fun x a2 h2 => ⟨rfl, ?_⟩
    simp
    exact fin _ _ _ _ _ _ _ _ _ _ _ _ _ _ h2
  · simp
    refine get_int l a1 h1 fun x a2 h2 => ⟨rfl, ?_⟩
    simp
    exact fin _ _ _ _ _ _ _ _ _ _ _ _ _ _ h2
  · simp
    refine get_oddChange l a1 h1 e.page e.slot e.bs e.bd e.az e.ad fun p n b s c t a2 h2 => ⟨rfl, ?_⟩
    simp
    exact fin _ _ _ _ _ _ _ _ _ _ _ _ _ _ h2
  · simp
    refine get_data l a1 h1 fun x a2 _ h2 => ⟨rfl, ?_⟩
    simp
    exact fin _ _ _ _ _ _ _ _ _ _ _ _ _ _ h2
  · simp
    refine get_next l a1 2 h1 fun x a2 hx0 _ hx1 _ h2 => ⟨rfl, ?_⟩
    have hx := hx1 (by omega)
    have ew : IntKind.i64.wrap (8192 + x) = 8192 + x := wi (by omega)
    simp [ew]
    exact ⟨by omega, by omega, fin _ _ _ _ _ _ _ _ _ _ _ _ _ _ h2⟩
end Go.Proofs.Ytdjbjfmgdagcgaa
