/- The framework: plain data for what the program does in memory; texts put together by merge.py (part 2 of 4). -/
import Derived.Maps.AppendAt
import Derived.ArgAppend
import Derived.Laws.Tables
import Derived.Test.YtdjbjfmgdagcgaaFM1
set_option linter.unusedSectionVars false
set_option linter.unusedSimpArgs false
set_option linter.unusedVariables false
/- The framework, part 14: boxes. -/
namespace Go.Fw
open Alg
section
variable {C : Cx} {w0 : World} {S0 M0 : Nat → Prop} {w w' : World} {S S' : Nat → Prop} {h h' : Hp} {μ μ' : Mu} {V : Vt}

/-- A new variable in memory. -/
theorem RH.newBox (H : RH C w0 S0 M0 S μ h w) {n : Name} (hn : h n = none) {T : Nat} {ts : List Ty} (ht : C.tab T = some ts) {cs : List (Cell D)} {cells : List Value} (hc : CellsRep C w S h μ ts cs cells) :
    RH C w0 S0 M0 S (upd μ n (.pointer (some ⟨w.heap.size, 0, none⟩))) (upd h n (some (.box T cs))) (w.alloc (.cells cells.toArray T)) ∧
    Ext S μ h w S (upd μ n (.pointer (some ⟨w.heap.size, 0, none⟩))) (upd h n (some (.box T cs))) (w.alloc (.cells cells.toArray T)) :=
  H.put n _ _ none (fun o' h' => by rw [hn] at h'; cases h') (.inl rfl) (World.grownBy_alloc w _ none) (.inr (.inr ⟨_, rfl, Nat.le_refl _⟩)) (by rw [hn]; exact .new ..)
    fun X => .box T ts cs w.heap.size cells ht (heap_alloc_new w _) (hc.mono X)
theorem run_newVar (t : Nat) (v : Value) : (newVar t v).run C.P w = .ok ⟨w.heap.size, 0, none⟩ (w.alloc (.cells v.cells t)) := rfl
theorem Upd.ap_fresh {nm : Nat → Name} : ∀ {u : Upd D} {n : Name}, (∀ p ∈ u, p.1 ≠ n) → Upd.ap u h n = h n := fun hn => FzU.other hn h
theorem alloc_sound (hZ : C.zok) (H : RH C w0 S0 M0 S μ h w) {nm : Nat → Name} (hi : Inj nm) (hf : Fresh h nm 0) {T : Nat} {res : Res D} (hr : allocV C nm T = some res) :
    Lands C w0 S0 M0 S μ h w res ((do pure (.value (← Instr.alloc T true (.tuple #[]))) : Sem Next).run C.P w) := by
  simp only [allocV, Option.bind_eq_bind, Option.bind_eq_some_iff] at hr
  obtain ⟨ts, ht, ⟨cs, u⟩, hz, hr⟩ := hr
  simp only [pure, Option.some.injEq] at hr
  subst hr
  obtain ⟨i, z, h1, h2, h3⟩ := hZ T ts ht
  obtain ⟨μ1, H1, X1, R1, N1⟩ := zeroCells_sound nm hi ts 1 h μ _ _ H (fun j hj => hf j (by omega)) hz h3
  have hn : Upd.ap u h (nm 0) = none := by
    rw [Upd.ap_fresh (nm := nm) (fun p hp e => by obtain ⟨j, hj, e'⟩ := N1 p hp; have := hi _ _ (e'.symm.trans e); omega)]
    exact hf 0 (Nat.le_refl _)
  obtain ⟨H2, X2⟩ := H1.newBox hn ht R1
  refine ⟨.pointer (some ⟨w.heap.size, 0, none⟩), w.alloc (.cells z.cells.toList.toArray T), .inl ?_, S, upd μ1 (nm 0) (.pointer (some ⟨w.heap.size, 0, none⟩)), ?_, ?_, .one _ _ (.ref _ 0 w.heap.size ?_)⟩
  · rw [run_val]
    have e1 : (Instr.alloc T true (.tuple #[])).run C.P w = .ok (.pointer (some ⟨w.heap.size, 0, none⟩)) (w.alloc (.cells z.cells T)) := by
      simp [Instr.alloc, zeroValue, typeInfo, h1, h2, run_newVar]
    rw [e1]
    simp
  · rw [Upd.ap_append]; exact H2
  · rw [Upd.ap_append]; exact X1.trans X2
  · rw [Upd.ap_append]
    exact ⟨.inl ⟨T, cs, upd_same ..⟩, upd_same ..⟩
/-- Cells of a value that is put into slots. -/
theorem cellsOfV_sound (H : RH C w0 S0 M0 S μ h w) {nm : Nat → Name} (hf : h (nm 0) = none) {ts : List Ty} (htt : ∀ e, ts = [.sl e] → (C.tab e).isSome = true) {sv : SV D} {v : Value} {r : List (Cell D) × Upd D} (hv : SVRep C w S h μ sv v) (hr : Runs C V h (cellsOfV nm ts sv) r) :
    ∃ μ', RH C w0 S0 M0 S μ' (Upd.ap r.2 h) w ∧ Ext S μ h w S μ' (Upd.ap r.2 h) w ∧ CellsRep C w S (Upd.ap r.2 h) μ' ts r.1 v.cells.toList ∧ (∀ p ∈ r.2, p.1 = nm 0) := by
  cases hv with
  | c x t v hc =>
    simp only [cellsOfV, Runs.bind, Runs.pure] at hr
    obtain ⟨cs, h1, rfl⟩ := hr
    have hc' : CellsRep C w S h μ [t] [x] [v] := by simpa using CellsRep.cons t [] x [] [v] [] hc .nil
    have hvc : v.cells.toList = [v] := by
      have := hc.one v (by simp)
      cases v <;> first | rfl | simp [Value.oneCell'] at this
    rw [hvc]
    exact ⟨μ, H, .refl, slotsOk_sound hc' h1, fun p hp => by cases hp⟩
  | agg xs us cs hc =>
    simp only [cellsOfV, Runs.bind, Runs.pure] at hr
    obtain ⟨cs', h1, rfl⟩ := hr
    have e1 : (Value.agg cs.toArray).cells.toList = cs := by simp [Value.cells]
    rw [e1]
    exact ⟨μ, H, .refl, slotsOk_sound hc h1, fun p hp => by cases hp⟩
  | nils =>
    simp only [cellsOfV] at hr
    split at hr
    · rename_i e
      rw [Runs.pure'] at hr
      subst hr
      obtain ⟨es, he⟩ := Option.isSome_iff_exists.1 (htt e rfl)
      obtain ⟨H1, X1⟩ := H.nilRow (n := nm 0) hf he
      refine ⟨_, H1, X1, ?_, fun p hp => by simp at hp; rw [hp]⟩
      have : CellRep C w S (upd h (nm 0) (some (.tok e (.rows []) 0 .live))) (upd μ (nm 0) (.slice none 0 0)) (.sl e) (.own (nm 0) 0) [.slice none 0 0] :=
        .own e (nm 0) 0 (.rows []) 0 .live _ (upd_same ..) (Nat.le_refl _) (fun _ => (upd_same ..).symm) rfl
      exact CellsRep.cons _ [] _ [] [.slice none 0 0] [] this .nil
    · exact ((Runs.fail _).1 hr).elim
  | clo f caps cv hc =>
    simp only [cellsOfV] at hr
    split at hr
    · simp only [Runs.bind, Runs.pure] at hr
      obtain ⟨x, h1, rfl⟩ := hr
      have := cloX_rep f [] [] [] hc .nil h1
      exact ⟨μ, H, .refl, CellsRep.cons _ [] _ [] [_] [] (.d _ _ _ this) .nil, fun p hp => by cases hp⟩
    · exact ((Runs.fail _).1 hr).elim
  | _ => exact ((Runs.fail _).1 hr).elim
theorem box_sound (hT : ∀ t ts, C.tab t = some ts → ∀ e, Ty.sl e ∈ ts → (C.tab e).isSome = true) (H : RH C w0 S0 M0 S μ h w) {nm : Nat → Name} (hi : Inj nm) (hf : Fresh h nm 0) {T : Nat} {sv : SV D} {v : Value} {res : Res D} (hv : SVRep C w S h μ sv v) (hr : Runs C V h (boxV C nm T sv) res) :
    Lands C w0 S0 M0 S μ h w res ((do pure (.value (← Instr.box T v)) : Sem Next).run C.P w) := by
  simp only [boxV, Runs.bind, Runs.liftO, Runs.pure'] at hr
  obtain ⟨ts, ht, ⟨cs, u⟩, hc, rfl⟩ := hr
  obtain ⟨μ1, H1, X1, R1, N1⟩ := cellsOfV_sound (nm := fun j => nm (j + 1)) H (hf 1 (by omega)) (fun e he => hT T ts ht e (by rw [he]; simp)) hv hc
  have hn : Upd.ap u h (nm 0) = none := by
    rw [Upd.ap_fresh (nm := nm) (fun p hp e => by have := hi _ _ ((N1 p hp).symm.trans e); omega)]
    exact hf 0 (Nat.le_refl _)
  obtain ⟨H2, X2⟩ := H1.newBox hn ht R1
  refine ⟨.pointer (some ⟨w.heap.size, 0, none⟩), w.alloc (.cells v.cells.toList.toArray T), .inl ?_, S, upd μ1 (nm 0) (.pointer (some ⟨w.heap.size, 0, none⟩)), ?_, ?_, .one _ _ (.ref _ 0 w.heap.size ?_)⟩
  · rw [run_val]
    have e1 : (Instr.box T v).run C.P w = .ok (.pointer (some ⟨w.heap.size, 0, none⟩)) (w.alloc (.cells v.cells T)) := by
      simp [Instr.box, run_newVar]
    rw [e1]
    simp
  · rw [Upd.ap_append]; exact H2
  · rw [Upd.ap_append]; exact X1.trans X2
  · rw [Upd.ap_append]
    exact ⟨.inl ⟨T, cs, upd_same ..⟩, upd_same ..⟩

/-- Some cells of a variable are written. -/
theorem CellsRep.splice (hC : C.ok) {TS ts : List Ty} {cs new : List (Cell D)} {cells vals : List Value} (H : CellsRep C w S h μ TS cs cells) {k : Nat} (h1 : (TS.drop k).take ts.length = ts) (h2 : k + ts.length ≤ TS.length) (hn : CellsRep C w S h μ ts new vals) :
    CellsRep C w S h μ TS (cs.take k ++ new ++ cs.drop (k + ts.length)) (cells.take (offOf C TS k) ++ vals ++ cells.drop (offOf C TS k + vals.length)) := by
  obtain ⟨a, b⟩ := H.split hC k (by omega)
  obtain ⟨c, d⟩ := b.split hC ts.length (by simp; omega)
  have e : offOf C (TS.drop k) ts.length = sizes C ts := by rw [offOf, h1]
  rw [e] at d
  have := (a.append hn).append d
  have e2 : TS.take k ++ ts ++ (TS.drop k).drop ts.length = TS := by
    rw [List.append_assoc]
    conv => lhs; rhs; lhs; rw [← h1]
    rw [List.take_append_drop, List.take_append_drop]
  rw [e2, List.drop_drop, List.drop_drop] at this
  rw [hn.len hC]
  exact this
theorem run_storeVar (hC : C.ok) {t : Nat} {ts : List Ty} (ht : C.tab t = some ts) {blk off T : Nat} {cells : List Value} (hb : w.heap[blk]? = some (.cells cells.toArray T (0, 0))) {v : Value} (hl : v.cells.toList.length = sizes C ts) (hfit : off + sizes C ts ≤ cells.length) (h1 : ∀ u ∈ v.cells.toList, u.oneCell' = true) :
    (storeVar t ⟨blk, off, none⟩ v).run C.P w = .ok () (w.setRow blk (cells.take off ++ v.cells.toList ++ cells.drop (off + v.cells.toList.length)).toArray) := by
  have hs : v.cells.size = sizes C ts := by rw [← hl]; simp
  have := run_storeCells_at C.P blk off T v.cells.toList 0 cells.toArray w hb (by simp; rw [hs]; exact hfit) h1
  unfold storeVar
  simp only [Sem.run_bind, run_sizeOf hC ht, Result.andThen_ok, hs, ne_eq, not_true_eq_false, if_false]
  rw [this]
  simp
theorem grown_setRow (w : World) (g : Nat) (cs : Array Value) : w.grownBy (w.setRow g cs) (some g) :=
  ⟨rfl, rfl, rfl, by simp, fun k _ hk => setRow_other w g k _ (fun e => hk (by rw [e]))⟩
theorem offOf_le {TS ts : List Ty} {k : Nat} (h1 : (TS.drop k).take ts.length = ts) (h2 : k + ts.length ≤ TS.length) : offOf C TS k + sizes C ts ≤ sizes C TS := by
  have : TS = TS.take k ++ (ts ++ (TS.drop k).drop ts.length) := by
    conv => rhs; rhs; lhs; rw [← h1]
    rw [List.take_append_drop, List.take_append_drop]
  have e : sizes C TS = offOf C TS k + (sizes C ts + sizes C ((TS.drop k).drop ts.length)) := by
    conv => lhs; rw [this]
    simp only [sizes, List.map_append, List.sum_append, offOf]
  omega
/-- A box takes new cells. -/
theorem RH.setBox (hC : C.ok) (H : RH C w0 S0 M0 S μ h w) {b : Name} {blk T : Nat} {cs : List (Cell D)} (hb : isBox h μ b blk) (hn : h b = some (.box T cs)) {TS : List Ty} (hT : C.tab T = some TS) {cs' : List (Cell D)} {cells' : List Value}
    (hc : CellsRep C w S h μ TS cs' cells') {old : Array Value} (ho : w.heap[blk]? = some (.cells old T (0, 0))) :
    RH C w0 S0 M0 S μ (upd h b (some (.box T cs'))) (w.setRow blk cells'.toArray) ∧ Ext S μ h w S μ (upd h b (some (.box T cs'))) (w.setRow blk cells'.toArray) := by
  have := H.put (w' := w.setRow blk cells'.toArray) b (.box T cs') (μ b) (some blk) (fun o' h' => by rw [hn] at h'; injection h' with h'; subst h'; rfl) (.inr ⟨_, hn, by rw [hb.2]; rfl⟩) (grown_setRow w blk _)
    (.inr (.inl ⟨_, hn, rfl⟩)) (by rw [hn]; exact .box ..) (fun X => by
      rw [hb.2]
      exact .box T TS cs' blk cells' hT (setRow_heap w blk _ _ T (0, 0) ho) (hc.mono (by rw [hb.2] at X; exact X)))
  have e : upd μ b (μ b) = μ := by funext m; unfold upd; split <;> simp_all
  rwa [e] at this
end
end Go.Fw
/- The framework, part 15: stores. -/
namespace Go.Fw
open Alg
def Cx.tok (C : Cx) : Prop := ∀ t ts, C.tab t = some ts → ∀ e, Ty.sl e ∈ ts → (C.tab e).isSome = true
section
variable {C : Cx} {w0 : World} {S0 M0 : Nat → Prop} {w w' : World} {S S' : Nat → Prop} {h h' : Hp} {μ μ' : Mu} {V : Vt}

theorem splice_get {α : Type} (l v : List α) (o : Nat) (hl : o + v.length ≤ l.length) (i : Nat) : (l.take o ++ v ++ l.drop (o + v.length))[i]? = if i < o then l[i]? else if i < o + v.length then v[i - o]? else l[i]? := by
  have h1 : (l.take o).length = o := by simp; omega
  by_cases a : i < o
  · rw [if_pos a, List.append_assoc, List.getElem?_append_left (by omega), List.getElem?_take, if_pos a]
  · rw [if_neg a]
    by_cases b : i < o + v.length
    · rw [if_pos b, List.getElem?_append_left (by simp; omega), List.getElem?_append_right (by omega), h1]
    · rw [if_neg b, List.getElem?_append_right (by simp; omega), List.getElem?_drop]
      congr 1
      simp
      omega
theorem splice_splice {α : Type} (l v : List α) (o n q : Nat) (hl : o + n ≤ l.length) (hv : q + v.length ≤ n) :
    l.take o ++ (((l.drop o).take n).take q ++ v ++ ((l.drop o).take n).drop (q + v.length)) ++ l.drop (o + (((l.drop o).take n).take q ++ v ++ ((l.drop o).take n).drop (q + v.length)).length) = l.take (o + q) ++ v ++ l.drop (o + q + v.length) := by
  have hA : ((l.drop o).take n).length = n := by simp; omega
  have hB : (((l.drop o).take n).take q ++ v ++ ((l.drop o).take n).drop (q + v.length)).length = n := by
    simp only [List.length_append, List.length_take, List.length_drop]
    omega
  apply List.ext_getElem?
  intro i
  rw [splice_get l _ o (by rw [hB]; exact hl), splice_get l v (o + q) (by omega), hB]
  by_cases a : i < o
  · rw [if_pos a, if_pos (by omega)]
  · rw [if_neg a]
    by_cases b : i < o + n
    · rw [if_pos b, splice_get _ v q (by rw [hA]; exact hv)]
      by_cases c : i - o < q
      · have c' : i < o + q := by omega
        rw [if_pos c, if_pos c', List.getElem?_take, if_pos (by omega), List.getElem?_drop]
        congr 1
        omega
      · have c' : ¬ i < o + q := by omega
        rw [if_neg c, if_neg c']
        by_cases d : i - o < q + v.length
        · have d' : i < o + q + v.length := by omega
          rw [if_pos d, if_pos d']
          congr 1
          omega
        · have d' : ¬ i < o + q + v.length := by omega
          rw [if_neg d, if_neg d', List.getElem?_take, if_pos (by omega), List.getElem?_drop]
          congr 1
          omega
    · have c' : ¬ i < o + q := by omega
      have d' : ¬ i < o + q + v.length := by omega
      rw [if_neg b, if_neg c', if_neg d']
theorem run_storeAt (t : Nat) (a : Addr) (v : Value) : (Instr.storeAt t (.pointer (some a)) v).run C.P w = (storeVar t a v).run C.P w := by
  simp [Instr.storeAt, Instr.sureAddr]
theorem run_unit (s : Sem Unit) (P : Program) : (do s; pure .skip : Sem Next).run P w = (s.run P w).andThen fun _ w' => .ok .skip w' := by
  simp
theorem setRow_D (r : List D) (n k : Nat) (hn : r.length = n) (xs : List D) (hk : k + xs.length ≤ n) : setRow (.rows [r]) n k xs = .rows [r.take k ++ xs ++ r.drop (k + xs.length)] := by
  unfold setRow
  have e1 : rowCells (.rows [r] : D) n = r := by
    have := rowPart r 0 n (by omega)
    simp only [Nat.zero_add] at this
    rw [rowCells, this, List.drop_zero, List.take_of_length_le (by omega)]
  rw [e1, mkRow_D]
theorem RepRow.splice (hC : C.ok) {TS ts : List Ty} {ds xs : List D} {cells vals : List Value} (H : RepRow C w S TS ds cells) {k : Nat} (h1 : (TS.drop k).take ts.length = ts) (h2 : k + ts.length ≤ TS.length) (hn : RepRow C w S ts xs vals) :
    RepRow C w S TS (ds.take k ++ xs ++ ds.drop (k + xs.length)) (cells.take (offOf C TS k) ++ vals ++ cells.drop (offOf C TS k + vals.length)) := by
  obtain ⟨a, b⟩ := H.split hC k (by omega)
  obtain ⟨c, d⟩ := b.split hC ts.length (by simp; omega)
  have e : offOf C (TS.drop k) ts.length = sizes C ts := by rw [offOf, h1]
  rw [e] at d
  have := (a.append hn).append d
  have e2 : TS.take k ++ ts ++ (TS.drop k).drop ts.length = TS := by
    rw [List.append_assoc]
    conv => lhs; rhs; lhs; rw [← h1]
    rw [List.take_append_drop, List.take_append_drop]
  rw [e2, List.drop_drop, List.drop_drop] at this
  rw [hn.len hC, hn.lens]
  exact this
theorem CellsRep.at_ {ts : List Ty} {cs : List (Cell D)} {cells : List Value} (H : CellsRep C w S h μ ts cs cells) {k : Nat} {t : Ty} {c : Cell D} (h1 : ts[k]? = some t) (h2 : cs[k]? = some c) (hC : C.ok) :
    CellRep C w S h μ t c ((cells.drop (offOf C ts k)).take (t.size C)) := by
  have hkl : k < ts.length := (List.getElem?_eq_some_iff.1 h1).1
  have hkc : k < cs.length := (List.getElem?_eq_some_iff.1 h2).1
  have hone : (ts.drop k).take 1 = [t] := by
    rw [List.drop_eq_getElem_cons hkl, List.take_succ_cons, List.take_zero, (List.getElem?_eq_some_iff.1 h1).2]
  have hA := H.sub (ts := [t]) hC hone (by simp; omega)
  have hc1 : (cs.drop k).take [t].length = [c] := by
    rw [List.length_singleton, List.drop_eq_getElem_cons hkc, List.take_succ_cons, List.take_zero, (List.getElem?_eq_some_iff.1 h2).2]
  rw [hc1] at hA
  have hsz : sizes C [t] = t.size C := by simp [sizes]
  rw [hsz] at hA
  generalize (cells.drop (offOf C ts k)).take (t.size C) = ac at hA
  cases hA with
  | cons _ _ _ _ c1 c2 hd hs =>
  cases hs with
  | nil => rw [List.append_nil]; exact hd
theorem store_sound (hC : C.ok) (hK : C.tok) (H : RH C w0 S0 M0 S μ h w) {nm : Nat → Name} (hf : h (nm 0) = none) {t : Nat} {a sv : SV D} {va v : Value} {u : Upd D} (ha : SVRep C w S h μ a va) (hv : SVRep C w S h μ sv v) (hr : Runs C V h (storeV C nm t a sv) u) :
    Lands C w0 S0 M0 S μ h w (.one .dead, u) ((do Instr.storeAt t va v; pure .skip : Sem Next).run C.P w) := by
  cases ha with
  | ref b off blk hb =>
    simp only [storeV, Runs.bind, Runs.getE] at hr
    obtain ⟨o, hn, hr⟩ := hr
    split at hr
    · rename_i T cs
      simp only [Runs.bind, Runs.liftO, Runs.req, exists_const] at hr
      obtain ⟨TS, hT, ts, ht, k, hk, hp, ⟨new, u'⟩, hnew, hr⟩ := hr
      rw [Runs.pure] at hr
      subst hr
      obtain ⟨hp1, hp2⟩ := partBeq hp
      obtain ⟨e1, e2⟩ := slotAt_off hk
      obtain ⟨μ1, H1, X1, R1, N1⟩ := cellsOfV_sound H hf (fun e he => hK t ts ht e (by rw [he]; simp)) hv hnew
      have hn1 : Upd.ap u' h b = some (.box T cs) := by
        rw [Upd.ap_fresh (nm := nm) (fun p hp e => by rw [N1 p hp] at e; rw [← e, hf] at hn; cases hn)]
        exact hn
      have hb1 := hb.mono X1
      obtain ⟨TS', cells, hT', hblk, hcs⟩ := box_known H1 hb1 hn1
      rw [hT] at hT'
      injection hT' with hT'
      subst hT'
      have hsp := hcs.splice hC hp1 hp2 R1
      rw [← e1] at hsp
      have hvl : v.cells.toList.length = sizes C ts := R1.len hC
      have hle := offOf_le (C := C) hp1 hp2
      have hcl := hcs.len hC
      have hrun := run_storeVar (off := off) hC ht hblk hvl (by rw [hcl, e1]; exact hle) R1.one
      obtain ⟨H2, X2⟩ := H1.setBox hC hb1 hn1 hT hsp hblk
      refine ⟨undef, _, .inr ⟨by rw [run_unit, run_storeAt, hrun]; rfl, rfl⟩, S, μ1, ?_, ?_, .one _ _ (.dead _)⟩
      · rw [Upd.ap_append]; exact H2
      · rw [Upd.ap_append]; exact X1.trans X2
    · exact ((Runs.fail _).1 hr).elim
  | refi b off n e i j blk hb hi =>
    simp only [storeV, Runs.bind, Runs.getE] at hr
    obtain ⟨o, hn, hr⟩ := hr
    split at hr
    · rename_i T cs
      simp only [Runs.bind, Runs.liftO, Runs.req, exists_const] at hr
      obtain ⟨TS, hT, k, hk, hTk, hr⟩ := hr
      split at hr
      · rename_i ty x hcx
        simp only [Runs.bind, Runs.liftO, Runs.req, exists_const] at hr
        obtain ⟨es, he, ts, ht, m, hm, hp, ⟨xs, u'⟩, hnew, hr⟩ := hr
        simp only [Runs.bind, Runs.req, exists_const, Runs.pure] at hr
        obtain ⟨hu, rfl⟩ := hr
        have hu : u' = [] := by simpa using hu
        subst hu
        obtain ⟨hp1, hp2⟩ := partBeq hp
        have hTk := eq_of_beq hTk
        obtain ⟨e1, e2⟩ := slotAt_off hk
        obtain ⟨e3, e4⟩ := slotAt_off hm
        obtain ⟨TS', cells, hT', hblk, hcs⟩ := box_known H hb hn
        rw [hT] at hT'
        injection hT' with hT'
        subst hT'
        have hcell := hcs.at_ hTk hcx hC
        have hdat := (dataOfV_rep H hv hnew).2 S (fun _ hb => hb) (fun p hp => by cases hp)
        dsimp only at hdat
        generalize hac : (cells.drop (offOf C TS k)).take ((Ty.arr n e).size C) = ac at hcell
        cases hcell with
        | d _ _ _ hrep =>
        cases hrep with
        | arr _ _ es' rows _ he' hrl hrows =>
        rw [he] at he'
        injection he' with he'
        subst he'
        have hrow := hrows.get hC i (by omega)
        have hrow' := hrow.splice hC hp1 hp2 hdat
        have hset := hrows.set hC (i := i) (by omega) hrow'
        have hxl := hdat.lens
        have eX : (f3 .lset (.rows rows) (.int (i : Int)) (setRow (f2 .row (.rows rows) (.int (i : Int))) es.length m xs) : D) = .rows (rows.set i ((rows.getD i []).take m ++ xs ++ (rows.getD i []).drop (m + xs.length))) := by
          rw [rowOf, setRow_D _ _ _ hrow.lens _ (by omega)]
          simp [f3, F3.den, D.row1]
        have hsz := hC e es he
        have hlr := hrow.len hC
        have hln := hdat.len hC
        have harr := CellRep.d (C := C) (w := w) (S := S) (h := h) (μ := μ) _ _ _ (Rep.arr n e es _ _ he (show (rows.set i ((rows.getD i []).take m ++ xs ++ (rows.getD i []).drop (m + xs.length))).length = n by simp [hrl]) hset)
        rw [← eX] at harr
        have hacl : ac.length = n * C.P.cellsOf e := by rw [hrows.len hC, hrl, hsz.1]
        have hcl := hcs.len hC
        have hone : (TS.drop k).take [Ty.arr n e].length = [.arr n e] := by
          have hkl : k < TS.length := (List.getElem?_eq_some_iff.1 hTk).1
          rw [List.length_singleton, List.drop_eq_getElem_cons hkl, List.take_succ_cons, List.take_zero, (List.getElem?_eq_some_iff.1 hTk).2]
        have hkl : k < TS.length := (List.getElem?_eq_some_iff.1 hTk).1
        have hfin := hcs.splice (ts := [.arr n e]) hC (k := k) hone (by simp; omega) (CellsRep.cons _ [] _ [] _ [] harr .nil)
        have hle := offOf_le (C := C) hone (by simp; omega)
        have hsA : sizes C [Ty.arr n e] = n * C.P.cellsOf e := by simp [sizes, Ty.size]
        rw [hsA] at hle
        have hle2 := offOf_le (C := C) hp1 hp2
        have hin : i * C.P.cellsOf e + C.P.cellsOf e ≤ n * C.P.cellsOf e := by
          rw [← Nat.succ_mul]; exact Nat.mul_le_mul_right _ hi
        have hrl1 : ((ac.drop (i * sizes C es)).take (sizes C es)).length = sizes C es := hlr
        rw [← hln] at hle2
        -- the inner splice, then the outer one
        have s1 := splice_splice ac v.cells.toList (i * sizes C es) (sizes C es) (offOf C es m) (by rw [hacl, hsz.1]; exact hin) hle2
        have hrowl : ((ac.drop (i * sizes C es)).take (sizes C es)).length = sizes C es := hlr
        rw [s1] at hfin
        rw [List.append_nil] at hfin
        have hac' : ac = (cells.drop off).take (n * C.P.cellsOf e) := by rw [← hac, e1]; rfl
        have hq : i * sizes C es + offOf C es m + v.cells.toList.length ≤ n * C.P.cellsOf e := by rw [hsz.1] at hle2 ⊢; omega
        have s2 := splice_splice cells v.cells.toList off (n * C.P.cellsOf e) (i * sizes C es + offOf C es m) (by rw [hcl, e1]; exact hle) hq
        rw [← hac'] at s2
        rw [← e1, s2] at hfin
        have hrun := run_storeVar (off := off + i * C.P.cellsOf e + j) hC ht hblk (v := v) hln (by rw [hcl, ← hln]; rw [hsz.1, ← e3] at hq; rw [e1]; omega) hdat.one
        obtain ⟨H2, X2⟩ := H.setBox hC hb hn hT hfin hblk
        have epos : off + i * C.P.cellsOf e + j = off + (i * sizes C es + offOf C es m) := by rw [hsz.1, e3]; omega
        rw [epos] at hrun
        have eset : cs.set k (.d (.arr n e) (f3 .lset (.rows rows) (.int (i : Int)) (setRow (f2 .row (.rows rows) (.int (i : Int))) es.length m xs))) = cs.take k ++ [.d (.arr n e) (f3 .lset (.rows rows) (.int (i : Int)) (setRow (f2 .row (.rows rows) (.int (i : Int))) es.length m xs))] ++ cs.drop (k + [Ty.arr n e].length) := by
          have hkc : k < cs.length := (List.getElem?_eq_some_iff.1 hcx).1
          rw [List.set_eq_take_append_cons_drop, if_pos hkc]
          simp
        rw [eset]
        exact ⟨undef, _, .inr ⟨by rw [run_unit, run_storeAt, epos, hrun]; rfl, rfl⟩, S, μ, H2, X2, .one _ _ (.dead _)⟩
      · exact ((Runs.fail _).1 hr).elim
    · exact ((Runs.fail _).1 hr).elim
  | oel n g i off e rows g' st v' hn hg hv' hpt =>
    simp only [storeV, Runs.bind, Runs.getE] at hr
    obtain ⟨o, hn', hr⟩ := hr
    rw [hn] at hn'
    subst hn'
    simp only [Runs.bind, Runs.liftO, Runs.req, exists_const] at hr
    obtain ⟨hgs, es, he, ts, ht, m, hm, hp, ⟨xs, u'⟩, hnew, hr⟩ := hr
    simp only [Runs.bind, Runs.req, exists_const, Runs.pure] at hr
    obtain ⟨hu, rfl⟩ := hr
    simp only [Bool.and_eq_true, beq_iff_eq] at hgs
    obtain ⟨hgg, hst⟩ := hgs
    subst hst
    obtain ⟨hp1, hp2⟩ := partBeq hp
    obtain ⟨e3, e4⟩ := slotAt_off hm
    obtain ⟨hfz, hdat⟩ := dataOfV_rep H hv hnew
    obtain ⟨S1, H1, X1, G1⟩ := FzU.ok H hfz
    have hdat := hdat S1 X1.sub G1
    dsimp only at hdat H1 X1
    have hn1 : Upd.ap u' h n = some (.tok e (.rows rows) g' .live) := by
      rw [FzU.other (fun p hp => by have := (List.all_eq_true.1 hu) p hp; simpa using this)]
      exact hn
    obtain ⟨hil, blk, c, hmu, rfl⟩ := hv' hgg
    have hO := H1.obj n _ hn1
    rw [hmu] at hO
    generalize hLL : Value.slice (some ⟨blk, 0, none⟩) rows.length c = LL at hO
    cases hO with
    | empty => simp at hil
    | live e es' rows g v'' cells he' hrows how =>
    subst hLL
    rw [he] at he'
    injection he' with he'
    subst he'
    rcases how.2 with ⟨hbad, _⟩ | ⟨b', cap, cur, hvv, h0, hblk, hc1, hc2, hc3, hc4⟩
    · cases hbad
    injection hvv with hb' _ hcap
    injection hb' with hb'
    injection hb' with hb' _ _
    subst hb' hcap
    have hsz := hC e es he
    have hrow := hrows.get hC i hil
    have hrow' := hrow.splice hC hp1 hp2 hdat
    have hset := hrows.set hC (i := i) hil hrow'
    have hxl := hdat.lens
    have hlr := hrow.len hC
    have hln := hdat.len hC
    have hcl := hrows.len hC
    have hle2 := offOf_le (C := C) hp1 hp2
    rw [← hln] at hle2
    have hin : i * sizes C es + sizes C es ≤ cells.length := by
      rw [hcl, ← Nat.succ_mul]; exact Nat.mul_le_mul_right _ hil
    have s1 := splice_splice cells v.cells.toList (i * sizes C es) (sizes C es) (offOf C es m) hin hle2
    rw [s1] at hset
    have eX : (f3 .lset (.rows rows) (.int (i : Int)) (setRow (f2 .row (.rows rows) (.int (i : Int))) es.length m xs) : D) = .rows (rows.set i ((rows.getD i []).take m ++ xs ++ (rows.getD i []).drop (m + xs.length))) := by
      rw [rowOf, setRow_D _ _ _ hrow.lens _ (by omega)]
      simp [f3, F3.den, D.row1]
    rw [eX]
    have hvs : v.cells.size = sizes C ts := by rw [← hln]; simp
    have hcur : cur.size = c * C.P.cellsOf e := hc3
    have hlc : rows.length * C.P.cellsOf e ≤ c * C.P.cellsOf e := Nat.mul_le_mul_right _ hc1
    have hq : i * sizes C es + offOf C es m + v.cells.toList.length ≤ rows.length * C.P.cellsOf e := by
      rw [hcl, hsz.1] at hin; rw [hsz.1] at hle2 ⊢; omega
    have hrun := run_storeVar (w := w) (off := i * C.P.cellsOf e + off) (cells := cur.toList) hC ht (by simpa using hblk) (v := v) hln (by rw [← hln]; simp; rw [hcur]; rw [hsz.1, ← e3] at hq; omega) hdat.one
    have epos : i * C.P.cellsOf e + off = i * sizes C es + offOf C es m := by rw [hsz.1, e3]
    rw [epos] at hrun
    -- the row, written
    have hput := H1.put (w' := w.setRow blk (cur.toList.take (i * sizes C es + offOf C es m) ++ v.cells.toList ++ cur.toList.drop (i * sizes C es + offOf C es m + v.cells.toList.length)).toArray) n (.tok e (.rows (rows.set i ((rows.getD i []).take m ++ xs ++ (rows.getD i []).drop (m + xs.length)))) g' .live) (μ n) (some blk)
      (fun o' h' => by rw [hn1] at h'; injection h' with h'; subst h'; rfl) (.inr ⟨_, hn1, by rw [hmu]; simp [Value.blk]; omega⟩) (grown_setRow w blk _) (.inr (.inl ⟨_, hn1, rfl⟩)) (by rw [hn1]; exact .same _ _ _ _ _ _ _ (by simp))
      (fun X => by
        rw [hmu] at X ⊢
        refine .live e es _ g' _ _ he (hset.mono X.sub X.kept) ⟨?_, .inr ⟨blk, c, _, by simp, Nat.zero_le _, setRow_heap w blk _ _ e (0, 0) hblk, by simpa using hc1, hc2, ?_, ?_⟩⟩
        · rw [(hset.len hC)]; rw [hsz.1]
        · simp; rw [hcur]; rw [hsz.1] at hq; omega
        · simp only [List.toList_toArray, List.length_set]
          apply List.ext_getElem?
          intro p
          rw [List.getElem?_take, splice_get cells v.cells.toList _ (by rw [hcl, hsz.1]; omega)]
          have hcc : ∀ p, p < rows.length * C.P.cellsOf e → cur.toList[p]? = cells[p]? := by
            intro p hp
            rw [← hc4, List.getElem?_take, if_pos hp]
          by_cases hp : p < rows.length * C.P.cellsOf e
          · rw [if_pos hp, splice_get cur.toList v.cells.toList _ (by simp; rw [hcur]; omega)]
            simp only [hcc p hp]
          · rw [if_neg hp, if_neg (by omega), if_neg (by omega), List.getElem?_eq_none (by rw [hcl, hsz.1]; omega)])
    have e : upd μ n (μ n) = μ := by funext m; unfold upd; split <;> simp_all
    rw [e] at hput
    obtain ⟨H2, X2⟩ := hput
    refine ⟨undef, _, .inr ⟨by rw [run_unit, run_storeAt, epos, hrun]; rfl, rfl⟩, S1, μ, ?_, ?_, .one _ _ (.dead _)⟩
    · rw [Upd.ap_append]; rw [hgg]; exact H2
    · rw [Upd.ap_append]; rw [hgg]; exact X1.trans X2
  | c => exact ((Runs.fail _).1 hr).elim
  | agg => exact ((Runs.fail _).1 hr).elim
  | nils => exact ((Runs.fail _).1 hr).elim
  | nilp => exact ((Runs.fail _).1 hr).elim
  | clo => exact ((Runs.fail _).1 hr).elim
  | dead => exact ((Runs.fail _).1 hr).elim
  | ro => exact ((Runs.fail _).1 hr).elim
end
end Go.Fw
/- The framework, part 16: rows that the call makes; append. -/
namespace Go.Fw
open Alg
section
variable {C : Cx} {w0 : World} {S0 M0 : Nat → Prop} {w w' : World} {S S' : Nat → Prop} {h h' : Hp} {μ μ' : Mu} {V : Vt}

theorem flat_rep {α : Type} (z : List α) : ∀ (n i : Nat), i < n * z.length → (List.replicate n z).flatten[i]? = z[i % z.length]?
  | 0, i, h => by simp at h
  | n + 1, i, h => by
    rw [List.replicate_succ, List.flatten_cons]
    by_cases hi : i < z.length
    · rw [List.getElem?_append_left hi, Nat.mod_eq_of_lt hi]
    · rw [List.getElem?_append_right (by omega), flat_rep z n (i - z.length) (by rw [Nat.succ_mul] at h; omega)]
      congr 1
      rw [← Nat.mod_eq_sub_mod (by omega)]
theorem made_flat (z : Array Value) (n : Nat) : (madeCells z (n * z.size)).toList = (List.replicate n z.toList).flatten := by
  apply List.ext_getElem?
  intro i
  by_cases hi : i < n * z.size
  · rw [flat_rep z.toList n i (by simpa using hi)]
    have hz : 0 < z.size := by
      rcases Nat.eq_zero_or_pos z.size with h0 | h0
      · rw [h0] at hi; simp at hi
      · exact h0
    have hm : i % z.size < z.size := Nat.mod_lt _ hz
    simp [madeCells, hi, hm]
  · rw [List.getElem?_eq_none (by simp [madeCells]; omega), List.getElem?_eq_none (by simp; omega)]
theorem zero_row (hC : C.ok) (hZ : C.zok) {e : Nat} {es : List Ty} (he : C.tab e = some es) : ∃ i z zs, C.P.info? e = some i ∧ i.zero = some z ∧ i.size = sizes C es ∧ z.cells.size = sizes C es ∧ es.mapM (zeroX (X := D) C 4) = some zs ∧ ∀ w S, RepRow C w S es zs z.cells.toList := by
  obtain ⟨i, z, h1, h2, h3⟩ := hZ e es he
  obtain ⟨i', h4, h5⟩ := hC.info he
  rw [h1] at h4
  injection h4 with h4
  subst h4
  have key : ∀ w S, ∃ zs, es.mapM (zeroX (X := D) C 4) = some zs ∧ RepRow C w S es zs z.cells.toList := by
    intro w S
    obtain ⟨xs, c, a1, a2, a3⟩ := zmRow_rep (C := C) (w := w) (S := S) (g := zeroX C 4) (fun t r rest h => zm_rep 4 t r rest h) es _ _ h3
    rw [List.append_nil] at a2
    rw [← a2] at a3
    exact ⟨xs, a1, a3⟩
  obtain ⟨zs, k1, k2⟩ := key default (fun _ => False)
  refine ⟨i, z, zs, h1, h2, h5, by rw [← k2.len hC]; simp, k1, fun w S => ?_⟩
  obtain ⟨zs', k3, k4⟩ := key w S
  rw [k1] at k3
  injection k3 with k3
  subst k3
  exact k4
theorem ileN {a : D} {n : Nat} (h : (f2 .ile a (ilit ((n : Nat) : Int)) : D).toBool = true) : a.toInt ≤ n := (ileI _ _).1 h
theorem room_iff (e : Nat) (n : D) (u : Unit) : Runs C V h (room C e n) u ↔ 0 < C.P.bytesOf e ∧ n.toInt ≤ ((140737488355328 / C.P.bytesOf e : Nat) : Int) := by
  simp only [room, Runs.bind, Runs.req, Runs.guardE, exists_const, decide_eq_true_eq, ileI]
  rfl
/-- A value that owns rows: with nothing in it and no room, or in a block of its own. -/
def Owns (C : Cx) (w : World) (e : Nat) (v : Value) (rows : List (List D)) (cells : List Value) : Prop :=
  (∃ A, v = .slice A 0 0 ∧ rows = []) ∨ (w.ownsRow 0 e (C.P.cellsOf e) v rows.length cells ∧ ∃ b n c, v = .slice (some ⟨b, 0, none⟩) n c ∧ c ≠ 0)
theorem Owns.of {e : Nat} {v : Value} {rows : List (List D)} {cells : List Value} (h : w.ownsRow 0 e (C.P.cellsOf e) v rows.length cells) : Owns C w e v rows cells := by
  rcases h.2 with ⟨e1, e2⟩ | ⟨k, cap, cur, e1, h1, h2, h3, h4⟩
  · exact .inl ⟨none, e1, List.eq_nil_of_length_eq_zero e2⟩
  · by_cases h0 : cap = 0
    · subst h0
      have hl := Nat.le_zero.1 h3
      refine .inl ⟨_, by rw [e1, hl], List.eq_nil_of_length_eq_zero hl⟩
    · exact .inr ⟨h, k, _, cap, e1, h0⟩
theorem Owns.rep {e : Nat} {es : List Ty} (he : C.tab e = some es) {v : Value} {rows : List (List D)} {cells : List Value} (h : Owns C w e v rows cells) (hr : RepRows C w S es rows cells) (g : Nat) : ObjRep C w S h' μ (.tok e (.rows rows) g .live) v := by
  rcases h with ⟨A, rfl, rfl⟩ | ⟨h, _⟩
  · exact .empty e es g A he
  · exact .live e es rows g v cells he hr h
theorem Owns.one {e : Nat} {v : Value} {rows : List (List D)} {cells : List Value} (h : Owns C w e v rows cells) : v.oneCell' = true := by
  rcases h with ⟨A, rfl, rfl⟩ | ⟨h, b, n, c, rfl, _⟩ <;> rfl
theorem Owns.blk {e : Nat} {v : Value} {rows : List (List D)} {cells : List Value} (h : Owns C w e v rows cells) : Value.blk v = none ∨ Value.blk v = Value.ownBlock v := by
  rcases h with ⟨A, rfl, rfl⟩ | ⟨h, b, n, c, rfl, h0⟩
  · exact .inl (Value.blk_zero A 0)
  · exact .inr (by simp [Value.blk, h0]; rfl)
/-- What is known of a row that may still change. -/
theorem live_owns (H : RH C w0 S0 M0 S μ h w) {n : Name} {e g : Nat} {rows : D} (hn : h n = some (.tok e rows g .live)) : ∃ es l cells, C.tab e = some es ∧ rows = .rows l ∧ RepRows C w S es l cells ∧ Owns C w e (μ n) l cells := by
  have hO := H.obj n _ hn
  generalize μ n = v at hO
  cases hO with
  | empty e ts g A ht => exact ⟨ts, [], [], ht, rfl, .nil ts, .inl ⟨A, rfl, rfl⟩⟩
  | live e ts rows g v cells ht hr ho => exact ⟨ts, rows, cells, ht, rfl, hr, .of ho⟩
/-- A new row of the call's own, in a new block. -/
theorem RH.newRow (H : RH C w0 S0 M0 S μ h w) {n : Name} (hn : h n = none) {e : Nat} {es : List Ty} (he : C.tab e = some es) {rows : List (List D)} {cells : List Value} (hr : RepRows C w S es rows cells) {v : Value}
    (hg : w.grownBy w' none) (ho : Owns C w' e v rows cells) (hv : Value.ownBlock v = none ∨ Value.blk v = none ∨ ∃ b, Value.ownBlock v = some b ∧ w.heap.size ≤ b) :
    RH C w0 S0 M0 S (upd μ n v) (upd h n (some (.tok e (.rows rows) 0 .live))) w' ∧ Ext S μ h w S (upd μ n v) (upd h n (some (.tok e (.rows rows) 0 .live))) w' :=
  H.put n _ v none (fun o' h' => by rw [hn] at h'; cases h') (.inl rfl) hg
    (by
      rcases ho.blk with h | h
      · exact .inl h
      · rw [h]
        rcases hv with h1 | h1 | h1
        · exact .inl h1
        · exact .inl (h.symm.trans h1)
        · exact .inr (.inr h1))
    (by rw [hn]; exact .new ..) fun X => ho.rep he (hr.mono X.sub X.kept) 0
theorem makeSlice_sound (hC : C.ok) (hZ : C.zok) (H : RH C w0 S0 M0 S μ h w) {nm : Nat → Name} (hf : h (nm 0) = none) {t : Nat} {l c : SV D} {vl vc : Value} {res : Res D} (hl : SVRep C w S h μ l vl) (hc : SVRep C w S h μ c vc) (hr : Runs C V h (makeSliceV C nm t l c) res) :
    Lands C w0 S0 M0 S μ h w res ((do pure (.value (← Instr.makeSlice t vl vc)) : Sem Next).run C.P w) := by
  unfold makeSliceV at hr
  split at hr
  · rename_i e hu
    simp only [Runs.bind, Runs.liftO, Runs.req, Runs.guardE, room_iff, exists_const, Runs.pure', ileI] at hr
    obtain ⟨⟨k, l'⟩, hl', ⟨k', c'⟩, hc', hk, g1, g2, ⟨g3, g4⟩, es, he, zs, hzs, rfl⟩ := hr
    dsimp only at g1 g2 g3 g4
    rw [intOf_some hl'] at hl
    rw [intOf_some hc'] at hc
    obtain ⟨ln, rfl, rfl⟩ := hl.intv
    obtain ⟨cn, rfl, rfl⟩ := hc.intv
    simp only [ilit, lit, Lt.den, D.toInt_int] at g1 g2 g4
    obtain ⟨i, z, zs', h1, h2, h3, h4, h5, h6⟩ := zero_row hC hZ he
    rw [hzs] at h5
    injection h5 with h5
    subst h5
    obtain ⟨ln, rfl⟩ := Int.eq_ofNat_of_zero_le g1
    obtain ⟨cn, rfl⟩ := Int.eq_ofNat_of_zero_le (Int.le_trans g1 g2)
    have hbe : C.P.bytesOf e = i.bytes := by simp [Program.bytesOf, h1]
    have hcb : cn * i.bytes ≤ 140737488355328 := by
      rw [hbe] at g4 g3
      have : cn ≤ 140737488355328 / i.bytes := by omega
      exact Nat.le_trans (Nat.mul_le_mul_right _ this) (Nat.div_mul_le_self _ _)
    have hcn : cn ≤ 140737488355328 := by
      rw [hbe] at g3
      exact Nat.le_trans (Nat.le_mul_of_pos_right _ g3) hcb
    have hlc : ln ≤ cn := by omega
    have hrun := run_make (P := C.P) w t e i z hu h1 h2 k k' ln cn (by omega) (by omega) (by
      have : ((i.bytes * cn : Nat) : Int) ≤ 281474976710656 := by rw [Nat.mul_comm]; omega
      rwa [Int.natCast_mul] at this) (by omega)
    rw [Int.toNat_natCast, Int.toNat_natCast, h3, ← h4] at hrun
    have hrows := RepRows.replicate (h6 w S) ln
    have hsz := hC e es he
    have hmade := made_flat z.cells cn
    have hmade' : (madeCells z.cells (cn * z.cells.size)).size = cn * C.P.cellsOf e := by rw [size_madeCells, h4, hsz.1]
    have how : (w.alloc (.cells (madeCells z.cells (cn * z.cells.size)) e)).ownsRow 0 e (C.P.cellsOf e) (.slice (some ⟨w.heap.size, 0, none⟩) ln cn) (List.replicate ln zs).length (List.replicate ln z.cells.toList).flatten := by
      rw [List.length_replicate]
      refine ⟨?_, .inr ⟨w.heap.size, cn, _, rfl, Nat.zero_le _, heap_alloc_new w _, hlc, by simp only [maxLen]; omega, hmade', ?_⟩⟩
      · rw [← hsz.1, ← h4]; simp
      · rw [hmade, ← hsz.1, ← h4]
        have : List.replicate cn z.cells.toList = List.replicate ln z.cells.toList ++ List.replicate (cn - ln) z.cells.toList := by rw [List.replicate_append_replicate]; congr 1; omega
        rw [this, List.flatten_append]
        have hll : ((List.replicate ln z.cells.toList).flatten).length = ln * z.cells.size := by simp
        rw [← hll]
        exact List.take_left
    obtain ⟨H1, X1⟩ := H.newRow hf he hrows (World.grownBy_alloc w _ none) (.of how) (.inr (.inr ⟨_, rfl, Nat.le_refl _⟩))
    have eX : (f2 .rep (.int (ln : Int)) (mkRow zs) : D) = .rows (List.replicate ln zs) := by rw [mkRow_D]; simp [f2, F2.den, D.row1]
    rw [eX]
    refine ⟨_, _, .inl (by rw [run_val, hrun]; rfl), S, _, H1, X1, .one _ _ (.c _ (.sl e) _ ?_)⟩
    exact .own e (nm 0) 0 _ 0 .live _ (upd_same ..) (Nat.le_refl _) (fun _ => (upd_same ..).symm) rfl
  · exact ((Runs.fail _).1 hr).elim

/-! ### append -/
theorem run_append_zero {t ty e : Nat} (hu : C.P.underlying t = some (.slice e)) {i : TypeInfo} (hi : C.P.info? e = some i) (b : Option Addr) (n c : Nat) (hnc : n ≤ c) (A : Option Addr) (c' : Nat) :
    (Builtin.append_ #[t, t] ty #[.slice b n c, .slice A 0 c']).run C.P w = .ok (.slice b n c) w := by
  cases A <;> cases b <;> simp [Builtin.append_, run_underlying hu, sizeOf, typeInfo, hi, Builtin.lenOf, Builtin.firstCells, hnc, storeCells, loadCells, loadCellsFrom]
theorem append_own (hC : C.ok) (hZ : C.zok) {t ty e : Nat} (hu : C.P.underlying t = some (.slice e)) {es : List Ty} (he : C.tab e = some es) (hpos : 0 < C.P.cellsOf e) {v : Value} {n : Nat} {xs : List Value} (how : w.ownsRow 0 e (C.P.cellsOf e) v n xs)
    {A : Option Addr} {m c : Nat} {news : List Value} (hl : news.length = m * C.P.cellsOf e) (hA : m ≠ 0 → ∃ b o, A = some ⟨b, o, none⟩ ∧ ∀ j u, news[j]? = some u → w.cell? ⟨b, o + j, none⟩ = some u) (h1 : ∀ u ∈ news, u.oneCell' = true) (hb : (n + m) * C.P.bytesOf e ≤ 140737488355328) (hbp : 0 < C.P.bytesOf e) :
    ∃ v' w', (Builtin.append_ #[t, t] ty #[v, .slice A m c]).run C.P w = .ok v' w' ∧ w'.ownsRow 0 e (C.P.cellsOf e) v' (n + m) (xs ++ news) ∧ w.grownBy w' v.ownBlock ∧ (v'.ownBlock = none ∨ v'.ownBlock = v.ownBlock ∨ ∃ b, v'.ownBlock = some b ∧ w.heap.size ≤ b) ∧ (m = 0 → v' = v) := by
  obtain ⟨i, z, zs, i1, i2, i3, i4, i5, i6⟩ := zero_row hC hZ he
  have hsz := (hC e es he).1
  have hby : i.bytes = C.P.bytesOf e := by simp [Program.bytesOf, i1]
  by_cases hm : m = 0
  · subst hm
    have hn : news = [] := List.eq_nil_of_length_eq_zero (by simpa using hl)
    subst hn
    rcases how.2 with ⟨rfl, rfl⟩ | ⟨g, cap, cur, rfl, h0, hblk, hc1, hc2, hc3, hc4⟩
    · exact ⟨_, w, run_append_zero hu i1 none 0 0 (Nat.le_refl _) A c, by simpa using how, ⟨rfl, rfl, rfl, Nat.le_refl _, fun _ _ _ => rfl⟩, .inl rfl, fun _ => rfl⟩
    · exact ⟨_, w, run_append_zero hu i1 _ n cap hc1 A c, by simpa using how, ⟨rfl, rfl, rfl, Nat.le_refl _, fun _ _ _ => rfl⟩, .inr (.inl rfl), fun _ => rfl⟩
  · obtain ⟨b, o, rfl, hcell⟩ := hA hm
    have hnm : n + m ≤ 140737488355328 := Nat.le_trans (Nat.le_mul_of_pos_right _ hbp) hb
    have hcell' : ∀ j u, news[j]? = some u → w.cell? ((⟨b, o, none⟩ : Addr).add j) = some u := fun j u hu => by rw [Addr.add_lit]; exact hcell j u hu
    obtain ⟨v', w', r1, r2, r3, r4, r5⟩ := run_append_own_at (P := C.P) w 0 t ty e i z (C.P.cellsOf e) (C.P.bytesOf e) hu i1 i2 (by rw [i3, hsz]) hby (by rw [i4, hsz]) hpos v n xs how ⟨b, o, none⟩ m c news hl hcell' h1 (by simp only [maxLen]; omega) hb (Nat.zero_le _)
    exact ⟨v', w', r1, r2, r3, .inr (r5.imp id fun h => ⟨_, h, Nat.le_refl _⟩), fun h => absurd h hm⟩
/-- What is added: its cells lie somewhere in memory. -/
theorem addend_sound (H : RH C w0 S0 M0 S μ h w) {x : Cell D} {vx : Value} {r : Ty × D × Upd D} {e : Nat} (hx : SVRep C w S h μ (.c x) vx) (hr : Runs C V h (cellData true x) r) (hf : fits r.1 (.sl e) = true) :
    ∃ l A c, r.2.1 = .rows l ∧ vx = .slice A l.length c ∧ (l ≠ [] → ∃ ts cells b o, C.tab e = some ts ∧ A = some ⟨b, o, none⟩ ∧ RepRows C w S ts l cells ∧ (∀ j u, cells[j]? = some u → w.cell? ⟨b, o + j, none⟩ = some u)) := by
  have hu : r.1 = .sl e ∨ r.1 = .slc e := by
    revert hf
    generalize r.1 = t
    cases t <;> simp [Fw.fits]
  have hro : Runs C V h (rowsOf (.c x)) (e, r.2.1) := by
    simp only [rowsOf, Runs.bind]
    refine ⟨r, hr, ?_⟩
    obtain ⟨t, y, u⟩ := r
    dsimp only at hu ⊢
    rcases hu with rfl | rfl <;> simp [Runs.pure]
  obtain ⟨l, A, c, h1, h2, h3, h4⟩ := rowsOf_sound H hx hro
  exact ⟨l, A, c, h1, h2, h4⟩
theorem ite_le (p : Prop) [Decidable p] (a b c : Int) (h : (if p then a else b) ≤ c) : (p ∧ a ≤ c) ∨ (¬ p ∧ b ≤ c) := by
  split at h
  · exact .inl ⟨‹_›, h⟩
  · exact .inr ⟨‹_›, h⟩
/-- What comes after something with no room. -/
theorem append_zero (hC : C.ok) (hZ : C.zok) {t ty e : Nat} (hu : C.P.underlying t = some (.slice e)) {es : List Ty} (he : C.tab e = some es) (hpos : 0 < C.P.cellsOf e) (A0 : Option Addr)
    {A : Option Addr} {c : Nat} {l : List (List D)} {news : List Value} (hl : news.length = l.length * C.P.cellsOf e) (hA : l.length ≠ 0 → ∃ b o, A = some ⟨b, o, none⟩ ∧ ∀ j u, news[j]? = some u → w.cell? ⟨b, o + j, none⟩ = some u) (h1 : ∀ u ∈ news, u.oneCell' = true) (hb : l.length * C.P.bytesOf e ≤ 140737488355328) (hbp : 0 < C.P.bytesOf e) :
    ∃ v' w', (Builtin.append_ #[t, t] ty #[.slice A0 0 0, .slice A l.length c]).run C.P w = .ok v' w' ∧ Owns C w' e v' l news ∧ w.grownBy w' none ∧ (Value.ownBlock v' = none ∨ Value.blk v' = none ∨ ∃ b, Value.ownBlock v' = some b ∧ w.heap.size ≤ b) := by
  obtain ⟨i, z, zs, i1, i2, i3, i4, i5, i6⟩ := zero_row hC hZ he
  have hsz := (hC e es he).1
  have hby : i.bytes = C.P.bytesOf e := by simp [Program.bytesOf, i1]
  by_cases hm : l.length = 0
  · have h0 : l = [] := List.eq_nil_of_length_eq_zero hm
    subst h0
    exact ⟨_, w, run_append_zero hu i1 A0 0 0 (Nat.le_refl _) A c, .inl ⟨A0, rfl, rfl⟩, ⟨rfl, rfl, rfl, Nat.le_refl _, fun _ _ _ => rfl⟩, .inr (.inl (Value.blk_zero _ _))⟩
  · obtain ⟨b, o, rfl, hcell⟩ := hA hm
    cases A0 with
    | none =>
      obtain ⟨v', w', r1, r2, r3, r4, r5⟩ := append_own (ty := ty) (w := w) hC hZ hu he hpos (v := .slice none 0 0) (n := 0) (xs := []) ⟨by simp, .inl ⟨rfl, rfl⟩⟩ hl (fun h => ⟨b, o, rfl, hcell⟩) h1 (by simpa using hb) hbp
      rw [Nat.zero_add, List.nil_append] at r2
      refine ⟨v', w', r1, .of r2, r3, ?_⟩
      rcases r4 with h | h | h
      · exact .inl h
      · exact .inl (h.trans rfl)
      · exact .inr (.inr h)
    | some b0 =>
      have hnm : l.length ≤ 140737488355328 := Nat.le_trans (Nat.le_mul_of_pos_right _ hbp) hb
      obtain ⟨v', w', r1, r2, r3⟩ := run_append_arg_grows (P := C.P) w t ty e i z (C.P.cellsOf e) (C.P.bytesOf e) hu i1 i2 (by rw [i3, hsz]) hby (by rw [i4, hsz]) hpos b0 0 0 [] (by simp) (fun j u hu => by simp at hu) ⟨b, o, none⟩ l.length c news hl (fun j u hu => by rw [Addr.add_lit]; exact hcell j u hu) (by omega) (by simp only [maxLen]; omega) (by simpa using hb)
      rw [Nat.zero_add, List.nil_append] at r2
      have r2' : w'.ownsRow 0 e (C.P.cellsOf e) v' l.length news := ⟨r2.1, r2.2.imp id fun ⟨k, cap, cur, h1, h2, h3⟩ => ⟨k, cap, cur, h1, Nat.zero_le _, h3⟩⟩
      refine ⟨v', w', r1, .of r2', r3, ?_⟩
      rcases r2.2 with ⟨rfl, _⟩ | ⟨k, cap, cur, rfl, h2, h3⟩
      · exact .inl rfl
      · exact .inr (.inr ⟨k, rfl, h2⟩)
theorem append_sound (hC : C.ok) (hZ : C.zok) (H : RH C w0 S0 M0 S μ h w) {nm : Nat → Name} (hf : h (nm 0) = none) {t u ty : Nat} {a b : SV D} {va vb : Value} {res : Res D} (ha : SVRep C w S h μ a va) (hb : SVRep C w S h μ b vb) (hr : Runs C V h (appendV C nm t u a b) res) :
    Lands C w0 S0 M0 S μ h w res ((do pure (.value (← Builtin.append_ #[t, u] ty #[va, vb])) : Sem Next).run C.P w) := by
  unfold appendV at hr
  split at hr
  · rename_i e hu
    simp only [Runs.bind, Runs.liftO, Runs.req, exists_const, decide_eq_true_eq] at hr
    obtain ⟨htu, ts, he, hpos, y, hy, hr⟩ := hr
    have htu := eq_of_beq htu
    subst htu
    have hsz := (hC e ts he).1
    -- what is added
    have hadd : ∃ l A c, y = .rows l ∧ vb = .slice A l.length c ∧ (l ≠ [] → ∃ cells b o, A = some ⟨b, o, none⟩ ∧ RepRows C w S ts l cells ∧ (∀ j u, cells[j]? = some u → w.cell? ⟨b, o + j, none⟩ = some u)) := by
      unfold addend at hy
      split at hy
      · rw [Runs.pure'] at hy
        subst hy
        cases hb
        exact ⟨[], none, 0, rfl, rfl, fun h => absurd rfl h⟩
      · rename_i x
        simp only [Runs.bind, Runs.req, exists_const, Runs.pure] at hy
        obtain ⟨⟨tt, y', up⟩, h1, h2, rfl⟩ := hy
        obtain ⟨l, A, c, e1, e2, e3⟩ := addend_sound H hb h1 h2
        refine ⟨l, A, c, e1, e2, fun hl => ?_⟩
        obtain ⟨ts', cells, b, o, a1, a2, a3, a4⟩ := e3 hl
        rw [he] at a1
        injection a1 with a1
        subst a1
        exact ⟨cells, b, o, a2, a3, a4⟩
      · exact ((Runs.fail _).1 hy).elim
    obtain ⟨l, A, c, rfl, rfl, hl⟩ := hadd
    have hcells : ∃ cells, RepRows C w S ts l cells ∧ (l.length ≠ 0 → ∃ b o, A = some ⟨b, o, none⟩ ∧ ∀ j u, cells[j]? = some u → w.cell? ⟨b, o + j, none⟩ = some u) := by
      by_cases h0 : l = []
      · subst h0
        exact ⟨[], .nil _, fun h => absurd rfl h⟩
      · obtain ⟨cells, b, o, a2, a3, a4⟩ := hl h0
        exact ⟨cells, a3, fun _ => ⟨b, o, a2, a4⟩⟩
    obtain ⟨cells, hrep, hA⟩ := hcells
    have hclen : cells.length = l.length * C.P.cellsOf e := by rw [hrep.len hC, hsz]
    split at hr
    · simp only [Runs.bind, room_iff, exists_const, Runs.pure'] at hr
      obtain ⟨⟨g1, g2⟩, rfl⟩ := hr
      cases ha
      simp only [f1, F1.den, D.toInt_int, D.toRows_rows] at g2
      have hbb : (0 + l.length) * C.P.bytesOf e ≤ 140737488355328 := by
        have : l.length ≤ 140737488355328 / C.P.bytesOf e := by omega
        rw [Nat.zero_add]
        exact Nat.le_trans (Nat.mul_le_mul_right _ this) (Nat.div_mul_le_self _ _)
      obtain ⟨v', w', r1, r2, r3, r4⟩ := append_zero (ty := ty) (w := w) (c := c) hC hZ hu he hpos none hclen hA hrep.one (by simpa using hbb) g1
      obtain ⟨H1, X1⟩ := H.newRow hf he hrep r3 r2 r4
      refine ⟨_, _, .inl (by rw [run_val, r1]; rfl), S, _, H1, X1, .one _ _ (.c _ (.sl e) _ ?_)⟩
      exact .own e (nm 0) 0 _ 0 .live _ (upd_same ..) (Nat.le_refl _) (fun _ => (upd_same ..).symm) r2.one
    · rename_i n g
      simp only [Runs.bind, Runs.getE, exists_eq_left'] at hr
      split at hr
      · rename_i e' rows g' st hn
        simp only [Runs.bind, Runs.req, exists_const, Bool.and_eq_true, room_iff, Runs.pure'] at hr
        obtain ⟨⟨⟨hg, hst⟩, hee⟩, ⟨g1, g2⟩, rfl⟩ := hr
        have hg := eq_of_beq hg
        have hst := eq_of_beq hst
        have hee := eq_of_beq hee
        subst hg hst hee
        have hva : va = μ n := by cases ha with | c x t v hc => exact tok_val H hc hn rfl
        subst hva
        obtain ⟨es', l0, cells0, a1, rfl, a3, a4⟩ := live_owns H hn
        rw [he] at a1
        injection a1 with a1
        subst a1
        simp only [f1, f2, F1.den, F2.den, D.toInt_int, D.toRows_rows, List.length_append, Int.natCast_add] at g2
        have hbb : (l0.length + l.length) * C.P.bytesOf e ≤ 140737488355328 := by
          have : l0.length + l.length ≤ 140737488355328 / C.P.bytesOf e := by omega
          exact Nat.le_trans (Nat.mul_le_mul_right _ this) (Nat.div_mul_le_self _ _)
        have hfin : ∀ {v' : Value} {w' : World} {row : Option Nat} {cells' : List Value}, (Builtin.append_ #[t, t] ty #[μ n, .slice A l.length c]).run C.P w = .ok v' w' → Owns C w' e v' (l0 ++ l) cells' → RepRows C w S ts (l0 ++ l) cells' → w.grownBy w' row → (row = none ∨ Value.blk (μ n) = row) →
            (Value.ownBlock v' = none ∨ Value.blk v' = none ∨ Value.blk v' = Value.blk (μ n) ∨ ∃ b, Value.ownBlock v' = some b ∧ w.heap.size ≤ b) →
            Lands C w0 S0 M0 S μ h w (.one (.c (.own n (g + 1))), [(n, .tok e (f2 .app (.rows l0) (.rows l)) (g + 1) .live)]) ((do pure (.value (← Builtin.append_ #[t, t] ty #[μ n, .slice A l.length c])) : Sem Next).run C.P w) := by
          intro v' w' row cells' r1 r2 hr' r3 r4 r5
          obtain ⟨H1, X1⟩ := H.put (w' := w') n (.tok e (.rows (l0 ++ l)) (g + 1) .live) v' row
            (fun o' h' => by rw [hn] at h'; injection h' with h'; subst h'; rfl)
            (r4.imp id fun h => ⟨_, hn, h⟩) r3
            (by
              rcases r2.blk with h | h
              · exact .inl h
              · rcases r5 with h' | h' | h' | h'
                · exact .inl (h.trans h')
                · exact .inl h'
                · exact .inr (.inl ⟨_, hn, h'⟩)
                · exact .inr (.inr (h ▸ h')))
            (by rw [hn]; exact .later _ _ _ _ _ _ _ _ _ (Nat.lt_succ_self _))
            fun X => r2.rep he (hr'.mono X.sub X.kept) (g + 1)
          refine ⟨_, _, .inl (by rw [run_val, r1]; rfl), S, _, H1, X1, .one _ _ (.c _ (.sl e) _ ?_)⟩
          exact .own e n (g + 1) _ _ .live _ (upd_same ..) (Nat.le_refl _) (fun _ => (upd_same ..).symm) r2.one
        rcases a4 with ⟨A0, hz, rfl⟩ | ⟨how, b0, n0, c0, hmu, hc0⟩
        · rw [hz] at hfin ⊢
          obtain ⟨v', w', r1, r2, r3, r4⟩ := append_zero (ty := ty) (w := w) (c := c) hC hZ hu he hpos A0 hclen hA hrep.one (by simpa using hbb) g1
          exact hfin r1 r2 hrep r3 (.inl rfl) (by
            rcases r4 with h | h | h
            · exact .inl h
            · exact .inr (.inl h)
            · exact .inr (.inr (.inr h)))
        · obtain ⟨v', w', r1, r2, r3, r4, r5⟩ := append_own (ty := ty) (w := w) hC hZ hu he hpos how hclen hA hrep.one hbb g1
          have hbm : Value.blk (μ n) = (μ n).ownBlock := by rw [hmu]; simp [Value.blk, hc0]; rfl
          refine hfin r1 (.of (by rw [List.length_append]; exact r2)) (a3.append hrep) r3 (.inr hbm) ?_
          rcases r4 with h | h | h
          · exact .inl h
          · rcases (Owns.of (C := C) (rows := l0 ++ l) (by rw [List.length_append]; exact r2)).blk with h' | h'
            · exact .inr (.inl h')
            · exact .inr (.inr (.inl (h'.trans (h.trans hbm.symm))))
          · exact .inr (.inr (.inr h))
      · exact ((Runs.fail _).1 hr).elim
    · rename_i e' x
      simp only [Runs.bind, Runs.req, exists_const, Runs.guardE, ileI, room_iff, Runs.pure'] at hr
      obtain ⟨hee, g0, ⟨g1, g2⟩, rfl⟩ := hr
      have hee := eq_of_beq hee
      subst hee
      cases ha with
      | c x t v hc =>
      generalize hLL : [va] = LL at hc
      cases hc with
      | d _ _ _ hx =>
      have hold : ∃ rows A cells, x = .rows rows ∧ va = .slice A rows.length rows.length ∧ RepRows C w S ts rows cells ∧ (rows ≠ [] → ∃ b o, A = some ⟨b, o, none⟩ ∧ ∀ j u, cells[j]? = some u → w.cell? ⟨b, o + j, none⟩ = some u) := by
        cases hx with
        | nilc e A => injection hLL with hLL; exact ⟨[], A, [], rfl, hLL, .nil _, fun h => absurd rfl h⟩
        | slc e ts' rows b o cells ht hs hn hr hl' =>
          injection hLL with hLL
          rw [he] at ht
          injection ht with ht
          subst ht
          exact ⟨rows, _, cells, rfl, hLL, hr, fun _ => ⟨b, o, rfl, hl'⟩⟩
      obtain ⟨rows, A0, cells0, rfl, rfl, hrep0, hA0⟩ := hold
      have hclen0 : cells0.length = rows.length * C.P.cellsOf e := by rw [hrep0.len hC, hsz]
      simp only [f1, f2, F1.den, F2.den, D.toInt_int, D.toRows_rows, List.length_append, Int.natCast_add, ilit, lit, Lt.den] at g0 g2
      have hbb : (rows.length + l.length) * C.P.bytesOf e ≤ 140737488355328 := by
        have : rows.length + l.length ≤ 140737488355328 / C.P.bytesOf e := by omega
        exact Nat.le_trans (Nat.mul_le_mul_right _ this) (Nat.div_mul_le_self _ _)
      have hfin : ∀ {v' : Value} {w' : World} {cells' : List Value}, (Builtin.append_ #[t, t] ty #[.slice A0 rows.length rows.length, .slice A l.length c]).run C.P w = .ok v' w' → Owns C w' e v' (rows ++ l) cells' → RepRows C w S ts (rows ++ l) cells' → w.grownBy w' none → (Value.ownBlock v' = none ∨ Value.blk v' = none ∨ ∃ b, Value.ownBlock v' = some b ∧ w.heap.size ≤ b) →
          Lands C w0 S0 M0 S μ h w (.one (.c (.own (nm 0) 0)), [(nm 0, .tok e (f2 .app (.rows rows) (.rows l)) 0 .live)]) ((do pure (.value (← Builtin.append_ #[t, t] ty #[.slice A0 rows.length rows.length, .slice A l.length c])) : Sem Next).run C.P w) := by
        intro v' w' cells' r1 r2 hr' r3 r4
        obtain ⟨H1, X1⟩ := H.newRow (w' := w') hf he hr' r3 r2 r4
        refine ⟨_, _, .inl (by rw [run_val, r1]; rfl), S, _, H1, X1, .one _ _ (.c _ (.sl e) _ ?_)⟩
        exact .own e (nm 0) 0 _ 0 .live _ (upd_same ..) (Nat.le_refl _) (fun _ => (upd_same ..).symm) r2.one
      by_cases h0 : rows = []
      · subst h0
        obtain ⟨v', w', r1, r2, r3, r4⟩ := append_zero (ty := ty) (w := w) (c := c) hC hZ hu he hpos A0 hclen hA hrep.one (by simpa using hbb) g1
        exact hfin r1 r2 hrep r3 r4
      · have hm : l.length ≠ 0 := by
          have hr1 : rows.length ≠ 0 := fun h => h0 (List.eq_nil_of_length_eq_zero h)
          intro hz
          rw [hz] at g0
          rcases ite_le _ _ _ _ g0 with ⟨_, h⟩ | ⟨_, h⟩ <;> omega
        obtain ⟨b0, o0, rfl, hc0⟩ := hA0 h0
        obtain ⟨b, o, rfl, hcell⟩ := hA hm
        obtain ⟨i, z, zs, i1, i2, i3, i4, i5, i6⟩ := zero_row hC hZ he
        have hby : i.bytes = C.P.bytesOf e := by simp [Program.bytesOf, i1]
        obtain ⟨v', w', r1, r2, r3⟩ := run_append_arg_grows (P := C.P) w t ty e i z (C.P.cellsOf e) (C.P.bytesOf e) hu i1 i2 (by rw [i3, hsz]) hby (by rw [i4, hsz]) hpos ⟨b0, o0, none⟩ rows.length rows.length cells0 hclen0 (fun j u hu => by rw [Addr.add_lit]; exact hc0 j u hu) ⟨b, o, none⟩ l.length c cells hclen (fun j u hu => by rw [Addr.add_lit]; exact hcell j u hu) (by omega) (by
          have : rows.length + l.length ≤ 140737488355328 := Nat.le_trans (Nat.le_mul_of_pos_right _ g1) hbb
          simp only [maxLen]; omega) hbb
        have r2' : w'.ownsRow 0 e (C.P.cellsOf e) v' (rows ++ l).length (cells0 ++ cells) := by
          rw [List.length_append]
          exact ⟨r2.1, r2.2.imp id fun ⟨k, cap, cur, h1, h2, h3⟩ => ⟨k, cap, cur, h1, Nat.zero_le _, h3⟩⟩
        refine hfin r1 (.of r2') (hrep0.append hrep) r3 ?_
        rcases r2.2 with ⟨rfl, _⟩ | ⟨k, cap, cur, rfl, h2, h3⟩
        · exact .inl rfl
        · exact .inr (.inr ⟨k, rfl, h2⟩)
    · exact ((Runs.fail _).1 hr).elim
  · exact ((Runs.fail _).1 hr).elim
end
end Go.Fw
/- The framework, part 17: composite literals. -/
namespace Go.Fw
open Alg
section
variable {C : Cx} {w0 : World} {S0 M0 : Nat → Prop} {w w' : World} {S S' : Nat → Prop} {h h' : Hp} {μ μ' : Mu} {V : Vt}

theorem setAll_list : ∀ (l : List Value) (k off : Nat) (cs : Array Value), off + k + l.length ≤ cs.size →
    ((l.zipIdx k).foldl (fun cs (p : Value × Nat) => cs.setIfInBounds (off + p.2) p.1) cs).toList = cs.toList.take (off + k) ++ l ++ cs.toList.drop (off + k + l.length)
  | [], k, off, cs, h => by simp
  | x :: l, k, off, cs, h => by
    rw [List.length_cons] at h
    rw [List.zipIdx_cons, List.foldl_cons, setAll_list l (k + 1) off _ (by simp; omega)]
    simp only [Array.toList_setIfInBounds, List.length_cons]
    have hlt : off + k < cs.toList.length := by simp; omega
    rw [← Nat.add_assoc, List.take_succ_eq_append_getElem (by simp; omega), List.getElem_set_self, List.take_set_of_le (Nat.le_refl _), List.drop_set_of_lt (by omega)]
    simp only [List.append_assoc, List.singleton_append, List.cons_append, List.nil_append]
    congr 4
    omega
theorem setAll_arr (v : Array Value) (off : Nat) (cs : Array Value) (h : off + v.size ≤ cs.size) :
    v.zipIdx.foldl (fun cs (p : Value × Nat) => cs.setIfInBounds (off + p.2) p.1) cs = (cs.toList.take off ++ v.toList ++ cs.toList.drop (off + v.size)).toArray := by
  apply Array.toList_inj.1
  have := setAll_list v.toList 0 off cs (by simpa using h)
  rw [← Array.foldl_toList, Array.toList_zipIdx, this]
  simp
theorem fill_cons (place : Nat → Option (Nat × Nat)) (cells : Array Value) (i : Nat) (v : Value) (rest : List (Nat × Value)) {off size : Nat} (hp : place i = some (off, size)) (hs : v.cells.toList.length = size) (hle : off + size ≤ cells.size) :
    Instr.fill place cells ((i, v) :: rest) = Instr.fill place (cells.toList.take off ++ v.cells.toList ++ cells.toList.drop (off + v.cells.toList.length)).toArray rest := by
  have hs' : v.cells.size = size := by simpa using hs
  rw [Instr.fill, hp]
  simp only [hs']
  rw [if_neg (by simp; exact hle)]
  rw [setAll_arr _ _ _ (by rw [hs']; exact hle)]
  simp

/-- Parts: by number, the value for the part. -/
inductive PartsRep (C : Cx) (w : World) (S : Nat → Prop) (h : Hp) (μ : Mu) : List (Nat × SV D) → List (Nat × Value) → Prop
  | nil : PartsRep C w S h μ [] []
  | cons (i : Nat) (x : SV D) (v : Value) (ps : List (Nat × SV D)) (vs : List (Nat × Value)) (hx : SVRep C w S h μ x v) (hs : PartsRep C w S h μ ps vs) : PartsRep C w S h μ ((i, x) :: ps) ((i, v) :: vs)
theorem PartsRep.mono (x : Ext S μ h w S' μ' h' w') {ps : List (Nat × SV D)} {vs : List (Nat × Value)} (hp : PartsRep C w S h μ ps vs) : PartsRep C w' S' h' μ' ps vs := by
  induction hp with
  | nil => exact .nil
  | cons i y v ps vs hx _ ih => exact .cons i y v ps vs (hx.mono x) ih
inductive RowsRep (C : Cx) (w : World) (S : Nat → Prop) (es : List Ty) : List (Nat × List D) → List (Nat × Value) → Prop
  | nil : RowsRep C w S es [] []
  | cons (i : Nat) (x : List D) (v : Value) (ps : List (Nat × List D)) (vs : List (Nat × Value)) (hx : RepRow C w S es x v.cells.toList) (hs : RowsRep C w S es ps vs) : RowsRep C w S es ((i, x) :: ps) ((i, v) :: vs)
def setAll (ps : List (Nat × List D)) (l : List (List D)) : List (List D) := ps.foldl (fun l p => l.set p.1 p.2) l
theorem fill_rows (hC : C.ok) {e : Nat} {es : List Ty} (he : C.tab e = some es) {ps : List (Nat × List D)} {vs : List (Nat × Value)} (hp : RowsRep C w S es ps vs) : ∀ {rows : List (List D)} {cells : List Value}, RepRows C w S es rows cells → (∀ p ∈ ps, p.1 < rows.length) →
    ∃ cells', Instr.fill (fun i => some (i * C.P.cellsOf e, C.P.cellsOf e)) cells.toArray vs = some cells'.toArray ∧ RepRows C w S es (setAll ps rows) cells' := by
  have hsz := (hC e es he).1
  induction hp with
  | nil => intro rows cells hr _; exact ⟨cells, rfl, hr⟩
  | cons i x v ps vs hx _ ih =>
    intro rows cells hr hi
    have hil : i < rows.length := hi (i, x) (by simp)
    have hxl := hx.len hC
    have hcl := hr.len hC
    have hset := hr.set hC hil hx
    obtain ⟨cells', h1, h2⟩ := ih hset (fun p hp => by simpa using hi p (by simp [hp]))
    refine ⟨cells', ?_, h2⟩
    rw [fill_cons _ _ i v vs rfl (by rw [hxl, hsz]) (by
      simp only [List.size_toArray, hcl, hsz, ← Nat.succ_mul]; exact Nat.mul_le_mul_right _ hil)]
    rw [List.toList_toArray, ← hsz]
    rw [← hsz] at h1
    exact h1
theorem setAll_length : ∀ (qs : List (Nat × List D)) (l : List (List D)), (setAll qs l).length = l.length
  | [], l => rfl
  | q :: qs, l => by
    have := setAll_length qs (l.set q.1 q.2)
    simp only [setAll, List.foldl_cons] at this ⊢
    rw [this, List.length_set]
theorem setAll_seq : ∀ (xs : List (List D)) (k : Nat) (pre rest : List (List D)), pre.length = k → rest.length = xs.length → setAll ((xs.zipIdx k).map fun p => (p.2, p.1)) (pre ++ rest) = pre ++ xs
  | [], k, pre, rest, h1, h2 => by
    have : rest = [] := List.eq_nil_of_length_eq_zero (by simpa using h2)
    subst this
    rfl
  | x :: xs, k, pre, [], h1, h2 => by simp at h2
  | x :: xs, k, pre, r :: rest, h1, h2 => by
    simp only [List.zipIdx_cons, List.map_cons, setAll, List.foldl_cons]
    have e : (pre ++ r :: rest).set k x = (pre ++ [x]) ++ rest := by
      rw [List.set_append_right _ _ (by omega), h1]
      simp
    rw [e]
    have := setAll_seq xs (k + 1) (pre ++ [x]) rest (by simp [h1]) (by simpa using h2)
    rw [setAll] at this
    rw [this]
    simp
theorem mkRow_lset (l : List (List D)) (i : Nat) (xs : List D) : (f3 .lset (.rows l) (ilit (i : Int)) (mkRow xs) : D) = .rows (l.set i xs) := by
  rw [mkRow_D]; simp [f3, F3.den, ilit, lit, Lt.den, D.row1]
theorem buildElems_rep (H : RH C w0 S0 M0 S μ h w) {es : List Ty} {ps : List (Nat × SV D)} {vs : List (Nat × Value)} (hp : PartsRep C w S h μ ps vs) : ∀ {l : List (List D)} {y : D}, Runs C V h (buildElems C es ps (.rows l)) y →
    ∃ qs, RowsRep C w S es qs vs ∧ y = .rows (setAll qs l) ∧ qs.map (·.1) = ps.map (·.1) := by
  induction hp with
  | nil =>
    intro l y hr
    simp only [buildElems, Runs.pure'] at hr
    exact ⟨[], .nil, hr.symm, rfl⟩
  | cons i x v ps vs hx _ ih =>
    intro l y hr
    simp only [buildElems, Runs.bind] at hr
    obtain ⟨⟨xs, u⟩, h1, hr⟩ := hr
    simp only [Runs.bind, Runs.req, exists_const] at hr
    obtain ⟨hu, hr⟩ := hr
    have hu : u = [] := by simpa using hu
    subst hu
    have hdat := (dataOfV_rep H hx h1).2 S (fun _ hb => hb) (fun p hp => by cases hp)
    rw [mkRow_lset] at hr
    obtain ⟨qs, a, b, c⟩ := ih hr
    exact ⟨(i, xs) :: qs, .cons _ _ _ _ _ hdat a, b, by simp [c]⟩
theorem litRows_rep (H : RH C w0 S0 M0 S μ h w) {es : List Ty} {ps : List (Nat × SV D)} {vs : List (Nat × Value)} (hp : PartsRep C w S h μ ps vs) : ∀ {i : Nat} {r : D × Upd D}, Runs C V h (litRows es i ps) r →
    FzU h r.2 ∧ ∃ xs, r.1 = .rows xs ∧ xs.length = ps.length ∧ ∀ S', (∀ b, S b → S' b) → Good C w μ r.2 S' → RowsRep C w S' es ((xs.zipIdx i).map fun p => (p.2, p.1)) vs := by
  induction hp with
  | nil =>
    intro i r hr
    simp only [litRows, Runs.pure'] at hr
    subst hr
    exact ⟨.nil h, [], rfl, rfl, fun _ _ _ => .nil⟩
  | cons j x v ps vs hx _ ih =>
    intro i r hr
    simp only [litRows, Runs.bind, Runs.req, exists_const] at hr
    obtain ⟨hij, ⟨xs, u⟩, h1, ⟨y, us⟩, h2, hr⟩ := hr
    rw [Runs.pure'] at hr
    subst hr
    have hij := eq_of_beq hij
    subst hij
    obtain ⟨hf1, hd1⟩ := dataOfV_rep H hx h1
    obtain ⟨hf2, ys, e1, e2, hd2⟩ := ih h2
    dsimp only at e1 hf2 hd2 hd1 hf1
    subst e1
    refine ⟨hf1.append hf2, xs :: ys, ?_, by simp [e2], fun S' hs hg => ?_⟩
    · rw [mkRow_D]; simp [f2, F2.den]
    · simp only [List.zipIdx_cons, List.map_cons]
      exact .cons _ _ _ _ _ (hd1 S' hs hg.left) (hd2 S' hs hg.right)
theorem buildSlice_sound (hC : C.ok) (hZ : C.zok) (H : RH C w0 S0 M0 S μ h w) {nm : Nat → Name} (hf : h (nm 0) = none) {T n : Nat} {ps : List (Nat × SV D)} {vs : List (Nat × Value)} (hp : PartsRep C w S h μ ps vs) {res : Res D} (hr : Runs C V h (buildSliceV C nm T n ps) res) :
    Lands C w0 S0 M0 S μ h w res ((do pure (.value (← Instr.buildSlice T n vs.toArray)) : Sem Next).run C.P w) := by
  unfold buildSliceV at hr
  split at hr
  · rename_i e hu
    simp only [Runs.bind, Runs.liftO, Runs.req, exists_const] at hr
    obtain ⟨es, he, hn, ⟨y, u⟩, hy, hr⟩ := hr
    rw [Runs.pure'] at hr
    subst hr
    simp only [Bool.and_eq_true, beq_iff_eq, decide_eq_true_eq] at hn
    obtain ⟨⟨hpn, hroom⟩, hpos⟩ := hn
    have hn24 : n ≤ 16777216 := Nat.le_trans (Nat.le_mul_of_pos_right _ hpos) hroom
    obtain ⟨hfz, xs, e1, e2, hd⟩ := litRows_rep H hp hy
    dsimp only at e1 hfz hd
    subst e1
    obtain ⟨S1, H1, X1, G1⟩ := FzU.ok H hfz
    have hrows := hd S1 X1.sub G1
    obtain ⟨i, z, zs, i1, i2, i3, i4, i5, i6⟩ := zero_row hC hZ he
    have hsz := (hC e es he).1
    obtain ⟨cells', hfill, hrep⟩ := fill_rows hC he hrows (RepRows.replicate (i6 w S1) n) (fun p hp => by
      simp only [List.mem_map] at hp
      obtain ⟨q, hq, rfl⟩ := hp
      have := List.snd_lt_add_of_mem_zipIdx hq
      simp; omega)
    have hseq : setAll ((xs.zipIdx 0).map fun p => (p.2, p.1)) (List.replicate n zs) = xs := by
      have := setAll_seq xs 0 [] (List.replicate n zs) rfl (by simp; omega)
      simpa using this
    rw [hseq] at hrep
    have hzc : z.cells.size = C.P.cellsOf e := by rw [i4, hsz]
    have hfr : ∀ p ∈ u, p.1 ≠ nm 0 := by
      intro p hp e
      obtain ⟨e', rows', g', h1, h2⟩ := hfz p hp
      rw [e, hf] at h1
      cases h1
    have hclen : cells'.length = n * C.P.cellsOf e := by rw [hrep.len hC, hsz, e2, hpn]
    have hrun : (Instr.buildSlice T n vs.toArray).run C.P w = .ok (.slice (some ⟨w.heap.size, 0, none⟩) n n) (w.alloc (.cells cells'.toArray e)) := by
      have hmade := made_flat z.cells n
      rw [hzc] at hmade
      rw [← hmade] at hfill
      have hif : C.P.info? e = some i := i1
      have hcz : i.size = C.P.cellsOf e := by rw [i3, hsz]
      have hnr : ∀ cells, (newRow e cells).run C.P w = .ok ⟨w.heap.size, 0, none⟩ (w.alloc (.cells cells e)) := fun cells => rfl
      have h24 : ¬ n * C.P.cellsOf e > 2 ^ 24 := by simpa using hroom
      by_cases h0 : n * C.P.cellsOf e = 0
      · have e0 : madeCells z.cells (n * C.P.cellsOf e) = #[] := by rw [h0]; simp [madeCells]
        rw [e0] at hfill
        have e1 : Array.map (fun x => (default : Value)) (Array.range 0) = #[] := by simp [Array.range]
        simp [Instr.buildSlice, run_underlying hu, sizeOf, typeInfo, i1, hcz, h0, hfill, hnr, e1]
      · simp only [madeCells, Array.toArray_toList] at hfill
        simp [Instr.buildSlice, run_underlying hu, sizeOf, typeInfo, zeroValue, i1, i2, hcz, h0, h24, hfill, hnr]
    obtain ⟨H2, X2⟩ := H1.newRow (w' := w.alloc (.cells cells'.toArray e)) (n := nm 0) (v := .slice (some ⟨w.heap.size, 0, none⟩) n n) (by rw [FzU.other hfr]; exact hf) he hrep (World.grownBy_alloc w _ none)
      (Owns.of ⟨by rw [hclen, e2, hpn], .inr ⟨w.heap.size, n, cells'.toArray, by rw [e2, hpn], Nat.zero_le _, heap_alloc_new w _, by omega, by simp only [maxLen]; omega, by simpa using hclen, by rw [List.take_of_length_le (by simp; rw [hclen, e2, hpn]; omega)]⟩⟩) (.inr (.inr ⟨_, rfl, Nat.le_refl _⟩))
    refine ⟨_, _, .inl (by rw [run_val, hrun]; rfl), S1, upd μ (nm 0) (.slice (some ⟨w.heap.size, 0, none⟩) n n), ?_, ?_, .one _ _ (.c _ (.sl e) _ ?_)⟩
    · rw [Upd.ap_append]; exact H2
    · rw [Upd.ap_append]; exact X1.trans X2
    · rw [Upd.ap_append]
      exact .own e (nm 0) 0 _ 0 .live _ (upd_same ..) (Nat.le_refl _) (fun _ => (upd_same ..).symm) rfl
  · exact ((Runs.fail _).1 hr).elim
/-! ### structs and arrays -/
/-- Where the parts of a type lie. -/
theorem places_of (hC : C.ok) {fs : List Field} (hfs : fs.all (fun f => (C.tab f.type).isSome) = true) :
    fs.mapM (fun f => (C.P.info? f.type).map fun i => (f.offset, i.size)) = some (fs.map fun f => (f.offset, C.P.cellsOf f.type)) := by
  induction fs with
  | nil => rfl
  | cons f fs ih =>
    simp only [List.all_cons, Bool.and_eq_true] at hfs
    obtain ⟨ts, ht⟩ := Option.isSome_iff_exists.1 hfs.1
    obtain ⟨i, hi, hs⟩ := hC.info ht
    rw [List.mapM_cons, ih hfs.2, hi]
    have : i.size = C.P.cellsOf f.type := by rw [hs, (hC _ _ ht).1]
    simp [this]
theorem Fresh.mono {nm : Nat → Name} {k m : Nat} (hf : Fresh h nm k) (hkm : k ≤ m) : Fresh h nm m := fun j hj => hf j (by omega)
theorem Fresh.ap {nm : Nat → Name} {k m : Nat} (hi : Inj nm) (hf : Fresh h nm k) {u : Upd D} (hu : ∀ p ∈ u, ∃ j, j < m ∧ p.1 = nm j) (hkm : k ≤ m) : Fresh (Upd.ap u h) nm m := fun j hj => by
  rw [FzU.other (fun p hp e => by obtain ⟨q, hq, e'⟩ := hu p hp; have := hi _ _ (e'.symm.trans e); omega)]
  exact hf j (by omega)
theorem slotOk_up (hh : ∀ n o, h n = some o → h' n = some o) {t : Ty} {c r : Cell D} (hr : Runs C V h (slotOk t c) r) : Runs C V h' (slotOk t c) r := by
  cases c with
  | d u x =>
    simp only [slotOk] at hr ⊢
    split at hr
    · rename_i hq
      rw [if_pos hq]
      rw [Runs.pure'] at hr ⊢
      exact hr
    · exact ((Runs.fail _).1 hr).elim
  | own n g =>
    simp only [slotOk, Runs.get] at hr ⊢
    cases hn : h n with
    | none => rw [hn] at hr; exact ((Runs.fail _).1 hr).elim
    | some o =>
      rw [hh n o hn]
      rw [hn] at hr
      cases o with
      | tok e rows g' st =>
        dsimp only at hr ⊢
        split at hr
        · rename_i hq
          rw [if_pos hq]
          rw [Runs.pure'] at hr ⊢
          exact hr
        · exact ((Runs.fail _).1 hr).elim
      | _ => exact ((Runs.fail _).1 hr).elim
theorem slotsOk_up (hh : ∀ n o, h n = some o → h' n = some o) : ∀ {ts : List Ty} {cs r : List (Cell D)}, Runs C V h (slotsOk ts cs) r → Runs C V h' (slotsOk ts cs) r
  | [], [], r, hr => by simp only [slotsOk, Runs.pure'] at hr ⊢; exact hr
  | t :: ts, c :: cs, r, hr => by
    simp only [slotsOk, Runs.bind, Runs.pure] at hr ⊢
    obtain ⟨x, h1, xs, h2, h3⟩ := hr
    exact ⟨x, slotOk_up hh h1, xs, slotsOk_up hh h2, h3⟩
  | [], _ :: _, r, hr => ((Runs.fail _).1 hr).elim
  | _ :: _, [], r, hr => ((Runs.fail _).1 hr).elim
theorem cloX_up : ∀ {l : List (Cell D ⊕ Name)} {x r : D}, Runs C V h (cloX l x) r → Runs C V h' (cloX l x) r
  | [], x, r, hr => by simp only [cloX, Runs.pure'] at hr ⊢; exact hr
  | .inl (.d t y) :: l, x, r, hr => by
    simp only [cloX] at hr ⊢
    exact cloX_up hr
  | .inl (.own n g) :: l, x, r, hr => ((Runs.fail _).1 hr).elim
  | .inr b :: l, x, r, hr => ((Runs.fail _).1 hr).elim
theorem cellsOfV_up (hh : ∀ n o, h n = some o → h' n = some o) {nm : Nat → Name} {ts : List Ty} {v : SV D} {r : List (Cell D) × Upd D} (hr : Runs C V h (cellsOfV nm ts v) r) : Runs C V h' (cellsOfV nm ts v) r := by
  cases v with
  | c x =>
    simp only [cellsOfV, Runs.bind, Runs.pure] at hr ⊢
    obtain ⟨a, h1, h2⟩ := hr
    exact ⟨a, slotsOk_up hh h1, h2⟩
  | agg xs =>
    simp only [cellsOfV, Runs.bind, Runs.pure] at hr ⊢
    obtain ⟨a, h1, h2⟩ := hr
    exact ⟨a, slotsOk_up hh h1, h2⟩
  | nils =>
    simp only [cellsOfV] at hr ⊢
    split at hr
    · rw [Runs.pure'] at hr ⊢; exact hr
    · exact ((Runs.fail _).1 hr).elim
  | clo f caps =>
    simp only [cellsOfV] at hr ⊢
    split at hr
    · simp only [Runs.bind, Runs.pure] at hr ⊢
      obtain ⟨a, h1, h2⟩ := hr
      exact ⟨a, cloX_up h1, h2⟩
    · exact ((Runs.fail _).1 hr).elim
  | _ => exact ((Runs.fail _).1 hr).elim
theorem zeroCells_names (nm : Nat → Name) : ∀ (ts : List Ty) (k : Nat) (r : List (Cell D) × Upd D), zeroCells C nm k ts = some r → ∀ p ∈ r.2, ∃ j, j < k + ts.length ∧ p.1 = nm j
  | [], k, r, hz, p, hp => by
    simp only [zeroCells, Option.some.injEq] at hz
    subst hz
    cases hp
  | t :: ts, k, r, hz, p, hp => by
    have key : ∃ cs u, zeroCells C nm (k + 1) ts = some (cs, u) ∧ (p ∈ u ∨ p.1 = nm k) := by
      by_cases hsl : ∃ e, t = .sl e
      · obtain ⟨e, rfl⟩ := hsl
        simp only [zeroCells, Option.bind_eq_bind, Option.bind_eq_some_iff] at hz
        obtain ⟨es, he, ⟨cs, u⟩, h1, h2⟩ := hz
        simp only [pure, Option.some.injEq] at h2
        subst h2
        refine ⟨cs, u, h1, ?_⟩
        rcases List.mem_cons.1 hp with rfl | hp
        · exact .inr rfl
        · exact .inl hp
      · cases t <;> first
          | exact absurd ⟨_, rfl⟩ hsl
          | (simp only [zeroCells, Option.bind_eq_bind, Option.bind_eq_some_iff, pure, Option.some.injEq] at hz
             obtain ⟨x', hx', ⟨cs, u⟩, h1, rfl⟩ := hz
             exact ⟨cs, u, h1, .inl hp⟩)
    obtain ⟨cs, u, h1, h2 | h2⟩ := key
    · obtain ⟨j, hj, e⟩ := zeroCells_names nm ts (k + 1) _ h1 p h2
      exact ⟨j, by rw [List.length_cons]; omega, e⟩
    · exact ⟨k, by rw [List.length_cons]; omega, h2⟩
theorem buildParts_sound (hC : C.ok) (hK : C.tok) {nm : Nat → Name} (hi : Inj nm) {T : Nat} {TS : List Ty} {fs : Array Field} (hu : C.P.underlying T = some (.struct fs)) (hfs : fs.toList.all (fun f => (C.tab f.type).isSome) = true) :
    ∀ (ps : List (Nat × SV D)) (vs : List (Nat × Value)) (q : Nat) (S : Nat → Prop) (h : Hp) (μ : Mu) (h0 : Hp) (cs : List (Cell D)) (u0 : Upd D) (cells : List Value) (r : List (Cell D) × Upd D),
      Upd.ap u0 h0 = h → (∀ n o, h0 n = some o → h n = some o) → RH C w0 S0 M0 S μ h w → Fresh h nm (1000 * (q + 1)) → PartsRep C w S h μ ps vs → CellsRep C w S h μ TS cs cells → Runs C V h0 (buildParts C nm T TS q ps cs u0) r →
      ∃ S' μ' cells', RH C w0 S0 M0 S' μ' (Upd.ap r.2 h0) w ∧ Ext S μ h w S' μ' (Upd.ap r.2 h0) w ∧ CellsRep C w S' (Upd.ap r.2 h0) μ' TS r.1 cells' ∧
        Instr.fill ((fs.toList.map fun f => (f.offset, C.P.cellsOf f.type))[·]?) cells.toArray vs = some cells'.toArray
  | [], vs, q, S, h, μ, h0, cs, u0, cells, r, e, hh, H, hf, hp, hc, hr => by
    simp only [buildParts, Runs.pure'] at hr
    subst hr e
    cases hp
    exact ⟨S, μ, cells, H, .refl, hc, rfl⟩
  | (i, x) :: ps, vs, q, S, h, μ, h0, cs, u0, cells, r, e, hh, H, hf, hp, hc, hr => by
    cases hp with
    | cons _ _ v _ vs hx hps =>
    simp only [buildParts, Runs.bind, Runs.liftO, Runs.req, exists_const] at hr
    obtain ⟨⟨o, ft⟩, hfi, hr⟩ := hr
    simp only [Runs.bind, Runs.liftO, Runs.req, exists_const] at hr
    obtain ⟨ts, ht, k, hk, hpt, ⟨new, u'⟩, hnew, hr⟩ := hr
    dsimp only at hr
    obtain ⟨hp1, hp2⟩ := partBeq hpt
    obtain ⟨e1, e2⟩ := slotAt_off hk
    obtain ⟨μ1, H1, X1, R1, N1⟩ := cellsOfV_sound (nm := fun j => nm (1000 * (q + 1) + j)) (ts := ts) H (hf _ (Nat.le_refl _)) (fun e he => hK ft ts ht e (by rw [he]; simp)) hx (cellsOfV_up hh hnew)
    dsimp only at H1 X1 R1 N1
    have hcl := hc.len hC
    have hvl := R1.len hC
    have hsz := (hC ft ts ht).1
    have hle := offOf_le (C := C) hp1 hp2
    have hsp := (hc.mono X1).splice hC hp1 hp2 R1
    have hfr : ∀ p ∈ u', p.1 = nm (1000 * (q + 1)) := fun p hp => by simpa using N1 p hp
    have hpl : ((fs.toList.map fun f => (f.offset, C.P.cellsOf f.type))[i]?) = some (o, C.P.cellsOf ft) := by
      unfold fieldInfo at hfi
      rw [hu] at hfi
      simp only [Option.map_eq_some_iff, Prod.mk.injEq] at hfi
      obtain ⟨f, hf1, rfl, rfl⟩ := hfi
      simp [hf1]
    obtain ⟨S', μ', cells', H2, X2, R2, hfill⟩ := buildParts_sound hC hK hi hu hfs ps vs (q + 1) S (Upd.ap u' h) μ1 h0 _ (u0 ++ u') _ r (by rw [Upd.ap_append, e])
      (fun n ob hn => by rw [FzU.other (fun p hp e' => by rw [hfr p hp] at e'; have h1 := hf (1000 * (q + 1)) (Nat.le_refl _); rw [e', hh n ob hn] at h1; cases h1)]; exact hh n ob hn)
      H1 (Fresh.ap hi hf (fun p hp => ⟨_, by omega, hfr p hp⟩) (by omega)) (hps.mono X1) hsp hr
    refine ⟨S', μ', cells', H2, X1.trans X2, R2, ?_⟩
    rw [fill_cons _ _ i v vs hpl (by rw [hvl, hsz]) (by simp; rw [hcl, e1, ← hsz]; exact hle)]
    rw [e1, List.toList_toArray]
    exact hfill
theorem build_sound (hC : C.ok) (hZ : C.zok) (hK : C.tok) (H : RH C w0 S0 M0 S μ h w) {nm : Nat → Name} (hi : Inj nm) (hf : Fresh h nm 0) {T : Nat} {ps : List (Nat × SV D)} {vs : List (Nat × Value)} (hp : PartsRep C w S h μ ps vs) {res : Res D} (hr : Runs C V h (buildV C nm T ps) res) :
    Lands C w0 S0 M0 S μ h w res ((do pure (.value (← Instr.build T vs.toArray)) : Sem Next).run C.P w) := by
  unfold buildV at hr
  split at hr
  · rename_i fs hu
    simp only [Runs.bind, Runs.liftO, Runs.req, exists_const] at hr
    obtain ⟨ts, ht, hq, ⟨cs, u⟩, hz, hr⟩ := hr
    simp only [Runs.bind] at hr
    obtain ⟨⟨cs', u'⟩, hb, hr⟩ := hr
    rw [Runs.pure'] at hr
    subst hr
    simp only [Bool.and_eq_true, decide_eq_true_eq] at hq
    obtain ⟨hlen, hfs⟩ := hq
    obtain ⟨i, z, i1, i2, i3⟩ := hZ T ts ht
    obtain ⟨μ1, H1, X1, R1, N1⟩ := zeroCells_sound nm hi ts 0 h μ z.cells.toList _ H hf hz i3
    have N1' : ∀ p ∈ u, ∃ j, j < ts.length ∧ p.1 = nm j := by
      have := zeroCells_names nm ts 0 _ hz
      simpa using this
    have hh : ∀ n o, h n = some o → Upd.ap u h n = some o := fun n o hn => by
      rw [FzU.other (fun p hp e => by obtain ⟨j, _, e'⟩ := N1' p hp; rw [← e, e', hf j (by omega)] at hn; cases hn)]
      exact hn
    obtain ⟨S2, μ2, cells', H2, X2, R2, hfill⟩ := buildParts_sound hC hK hi hu hfs ps vs 0 S _ μ1 h cs u z.cells.toList _ rfl hh H1 (Fresh.mono (Fresh.ap hi hf N1' (by omega)) (by omega)) (hp.mono X1) R1 hb
    have hbuilt : C.P.built T vs = some cells'.toArray := by
      simp only [Program.built, i1, hu, i2, places_of hC hfs]
      rw [← hfill]
      congr 1
      funext x
      simp
    refine ⟨_, w, .inl (by rw [run_val, run_build w T vs.toArray cells'.toArray (by simpa using hbuilt)]; rfl), S2, μ2, H2, X1.trans X2, .one _ _ (.agg _ ts _ R2)⟩
  · rename_i n e hu
    simp only [Runs.bind, Runs.liftO, Runs.req, exists_const] at hr
    obtain ⟨es, he, z, hz, hn, y, hy, hr⟩ := hr
    rw [Runs.ret1] at hr
    subst hr
    simp only [Bool.and_eq_true, beq_iff_eq] at hn
    obtain ⟨hT, hn⟩ := hn
    obtain ⟨i, zv, i1, i2, i3⟩ := hZ T _ hT
    simp only [zmRow, Option.bind_eq_some_iff] at i3
    obtain ⟨r1, i3, i4⟩ := i3
    simp only [Option.some.injEq] at i4
    subst i4
    obtain ⟨x, c, a1, a2, a3⟩ := zm_rep (C := C) (w := w) (S := S) 4 _ _ _ i3
    rw [hz] at a1
    injection a1 with a1
    subst a1
    rw [List.append_nil] at a2
    cases a3 with
    | arr _ _ es' rows _ he' hrl hrows =>
    rw [he] at he'
    injection he' with he'
    subst he'
    obtain ⟨qs, b1, b2, b3⟩ := buildElems_rep H hp hy
    subst b2
    have hq : ∀ p ∈ qs, p.1 < rows.length := by
      intro p hpq
      have : p.1 ∈ qs.map (·.1) := List.mem_map_of_mem hpq
      rw [b3] at this
      obtain ⟨p', hp', e'⟩ := List.mem_map.1 this
      have := (List.all_eq_true.1 hn) p' hp'
      simp only [decide_eq_true_eq] at this
      rw [← e', hrl]; exact this
    obtain ⟨cells', hfill, hrep⟩ := fill_rows hC he b1 hrows hq
    obtain ⟨ie, ie1, ie2⟩ := hC.info he
    have hies : ie.size = C.P.cellsOf e := by rw [ie2, (hC _ _ he).1]
    have hbuilt : C.P.built T vs = some cells'.toArray := by
      simp only [Program.built, i1, hu, i2, ie1, hies]
      rw [← hfill, ← a2]
    have hlen : (setAll qs rows).length = n := by rw [setAll_length, hrl]
    refine ⟨_, w, .inl (by rw [run_val, run_build w T vs.toArray cells'.toArray (by simpa using hbuilt)]; rfl), S, μ, H, .refl, .one _ _ (.agg _ [.arr n e] _ ?_)⟩
    have := CellsRep.cons _ [] _ [] _ [] (CellRep.d (C := C) (w := w) (S := S) (h := h) (μ := μ) _ _ _ (Rep.arr n e es _ _ he hlen hrep)) .nil
    rw [List.append_nil] at this
    exact this
  · exact ((Runs.fail _).1 hr).elim
end
end Go.Fw
/- The framework, part 20: what an operation does to expressions is what it does to the data that they stand for. -/
namespace Go.Fw
open Alg

section
variable {X Y : Type} [Alg X] [Alg Y]
structure Hom (φ : X → Y) : Prop where
  lit : ∀ l, φ (lit l) = lit l
  f1 : ∀ o a, φ (f1 o a) = f1 o (φ a)
  f2 : ∀ o a b, φ (f2 o a b) = f2 o (φ a) (φ b)
  f3 : ∀ o a b c, φ (f3 o a b c) = f3 o (φ a) (φ b) (φ c)
end
section
variable {X Y : Type}
def Cell.map (φ : X → Y) : Cell X → Cell Y
  | .d t x => .d t (φ x)
  | .own n g => .own n g
def Cap.map (φ : X → Y) : Cell X ⊕ Name → Cell Y ⊕ Name
  | .inl y => .inl (y.map φ)
  | .inr b => .inr b
def SV.map (φ : X → Y) : SV X → SV Y
  | .c y => .c (y.map φ)
  | .agg xs => .agg (xs.map (Cell.map φ))
  | .ref b o => .ref b o
  | .refi b o n e i j => .refi b o n e (φ i) j
  | .ro r e o => .ro (φ r) e o
  | .oel n g i o => .oel n g (φ i) o
  | .nils => .nils
  | .nilp => .nilp
  | .clo f caps => .clo f (caps.map (Cap.map φ))
  | .dead => .dead
def TV.map (φ : X → Y) : TV X → TV Y
  | .one v => .one (v.map φ)
  | .tup vs => .tup (vs.map (SV.map φ))
def Obj.map (φ : X → Y) : Obj X → Obj Y
  | .box t cs => .box t (cs.map (Cell.map φ))
  | .tok e x g st => .tok e (φ x) g st
  | .bld s => .bld (φ s)
def Upd.map (φ : X → Y) (u : Upd X) : Upd Y := List.map (fun p => (p.1, p.2.map φ)) u
def Res.map (φ : X → Y) (r : Res X) : Res Y := (r.1.map φ, Upd.map φ r.2)
@[simp] theorem Upd.map_nil (φ : X → Y) : Upd.map φ [] = [] := rfl
@[simp] theorem Upd.map_cons (φ : X → Y) (p : Name × Obj X) (u : Upd X) : Upd.map φ (p :: u) = (p.1, p.2.map φ) :: Upd.map φ u := rfl
@[simp] theorem Upd.map_append (φ : X → Y) (u v : Upd X) : Upd.map φ (u ++ v) = Upd.map φ u ++ Upd.map φ v := List.map_append ..
@[simp] theorem Upd.map_isEmpty (φ : X → Y) (u : Upd X) : List.isEmpty (Upd.map φ u) = List.isEmpty u := by cases u <;> rfl
theorem Upd.map_fst (φ : X → Y) (u : Upd X) : List.map (fun p : Name × Obj Y => p.1) (Upd.map φ u) = List.map (fun p : Name × Obj X => p.1) u := by simp [Upd.map]

/-- Two effects do the same. -/
inductive ND (φ : X → Y) {A B : Type} (g : A → B) : Eff X A → Eff Y B → Prop
  | pure (a : A) : ND φ g (.pure a) (.pure (g a))
  | fail : ND φ g .fail .fail
  | guard (c : X) (k : Eff X A) (k' : Eff Y B) (h : ND φ g k k') : ND φ g (.guard c k) (.guard (φ c) k')
  | ite (c : X) (a b : Eff X A) (a' b' : Eff Y B) (ha : ND φ g a a') (hb : ND φ g b b') : ND φ g (.ite c a b) (.ite (φ c) a' b')
  | get (n : Name) (k : Option (Obj X) → Eff X A) (k' : Option (Obj Y) → Eff Y B) (h : ∀ o, ND φ g (k o) (k' (o.map (Obj.map φ)))) : ND φ g (.get n k) (.get n k')
  | call (f : Nat) (xs : List X) (n : Nat) (k : List X → Eff X A) (k' : List Y → Eff Y B) (h : ∀ ys, ND φ g (k ys) (k' (ys.map φ))) : ND φ g (.call f xs n k) (.call f (xs.map φ) n k')
  | callv (s : Sig) (x : X) (xs : List X) (n : Nat) (k : List X → Eff X A) (k' : List Y → Eff Y B) (h : ∀ ys, ND φ g (k ys) (k' (ys.map φ))) : ND φ g (.callv s x xs n k) (.callv s (φ x) (xs.map φ) n k')
variable {A B A' B' : Type} {φ : X → Y} {g : A → B} {g' : A' → B'}
theorem ND.bind {e : Eff X A} {e' : Eff Y B} {f : A → Eff X A'} {f' : B → Eff Y B'} (h : ND φ g e e') (hf : ∀ a, ND φ g' (f a) (f' (g a))) : ND φ g' (e >>= f) (e' >>= f') := by
  induction h with
  | pure a => exact hf a
  | fail => exact .fail
  | guard c k k' _ ih => exact .guard c _ _ ih
  | ite c a b a' b' _ _ iha ihb => exact .ite c _ _ _ _ iha ihb
  | get n k k' _ ih => exact .get n _ _ ih
  | call f xs n k k' _ ih => exact .call f xs n _ _ ih
  | callv s x xs n k k' _ ih => exact .callv s x xs n _ _ ih
theorem ND.pure' {a : A} {b : B} (h : b = g a) : ND φ g (Pure.pure a) (Pure.pure b) := by subst h; exact .pure a
theorem ND.pure'' {a : A} {b : B} (h : b = g a) : ND φ g (.pure a) (.pure b) := by subst h; exact .pure a
theorem ND.liftO {o : Option A} {o' : Option B} (h : o' = o.map g) : ND φ g (Fw.liftO o) (Fw.liftO o') := by
  subst h
  cases o
  · exact .fail
  · exact .pure _
theorem ND.req (b : Bool) : ND φ (id : Unit → Unit) (Fw.req b) (Fw.req b) := by
  cases b
  · exact .fail
  · exact .pure ()
theorem ND.req' {b b' : Bool} (h : b' = b) : ND φ (id : Unit → Unit) (Fw.req b) (Fw.req b') := by subst h; exact ND.req _
theorem ND.guardE {c : X} {d : Y} (h : d = φ c) : ND φ (id : Unit → Unit) (Fw.guardE c) (Fw.guardE d) := by subst h; exact .guard _ _ _ (.pure ())
theorem ND.getE (n : Name) : ND φ (Option.map (Obj.map φ)) (Fw.getE n) (Fw.getE n) := .get _ _ _ fun o => .pure o
theorem ND.ite' {c : X} {d : Y} {a b : Eff X A} {a' b' : Eff Y B} (h : d = φ c) (ha : ND φ g a a') (hb : ND φ g b b') : ND φ g (.ite c a b) (.ite d a' b') := by subst h; exact .ite _ _ _ _ _ ha hb
/-- Does what a liftO'd value does, when that value is the same on both sides. -/
theorem ND.liftI {o : Option A} : ND φ (id : A → A) (Fw.liftO o) (Fw.liftO o) := .liftO (by simp)
end

section
variable {X Y : Type} [Alg X] [Alg Y] {φ : X → Y} (hφ : Hom φ)
include hφ
theorem nd_ilit (n : Int) : (ilit n : Y) = φ (ilit n) := (hφ.lit _).symm
theorem nd_mkRow (xs : List X) : mkRow (xs.map φ) = φ (mkRow xs) := by
  cases xs with
  | nil => simp [mkRow, hφ.f2, hφ.lit, ilit]
  | cons x xs =>
    simp only [mkRow, List.map_cons, List.foldl_map]
    have : ∀ (l : List X) (r : X), l.foldl (fun r y => f2 .addc r (φ y)) (φ r) = φ (l.foldl (fun r y => f2 .addc r y) r) := by
      intro l
      induction l with
      | nil => intro r; rfl
      | cons y l ih => intro r; simp only [List.foldl_cons]; rw [← hφ.f2, ih]
    rw [← hφ.f1, this]
theorem nd_rowCells (r : X) (n : Nat) : rowCells (φ r) n = (rowCells r n).map φ := by
  simp [rowCells, hφ.f1]
theorem nd_setRow (r : X) (n k : Nat) (xs : List X) : setRow (φ r) n k (xs.map φ) = φ (setRow r n k xs) := by
  unfold setRow
  rw [nd_rowCells hφ, ← nd_mkRow hφ]
  simp
theorem nd_zeroX (C : Cx) : ∀ (k : Nat) (t : Ty), zeroX (X := Y) C k t = (zeroX (X := X) C k t).map φ := by
  intro k
  induction k with
  | zero => intro t; cases t <;> simp [zeroX, hφ.lit, nd_ilit hφ]
  | succ k ih =>
    intro t
    cases t with
    | arr n e =>
      simp only [zeroX, Option.bind_eq_bind]
      cases C.tab e with
      | none => rfl
      | some ts =>
        simp only [Option.bind_some]
        have : ∀ ts : List Ty, ts.mapM (zeroX (X := Y) C k) = (ts.mapM (zeroX (X := X) C k)).map (List.map φ) := by
          intro ts
          induction ts with
          | nil => simp
          | cons t ts ih2 =>
            simp only [List.mapM_cons, ih2, ih]
            cases zeroX (X := X) C k t <;> simp
            cases ts.mapM (zeroX (X := X) C k) <;> simp
        rw [this]
        cases ts.mapM (zeroX (X := X) C k) <;> simp [hφ.f2, nd_mkRow hφ, nd_ilit hφ]
    | _ => simp [zeroX, hφ.lit, nd_ilit hφ]
omit hφ in
theorem nd_cellData (keep : Bool) (y : Cell X) : ND φ (fun r : Ty × X × Upd X => (r.1, φ r.2.1, Upd.map φ r.2.2)) (cellData keep y) (cellData keep (y.map φ)) := by
  cases y with
  | d t x => exact .pure'' rfl
  | own n g =>
    refine .get _ _ _ fun o => ?_
    match o with
    | none => exact .fail
    | some (.box ..) => exact .fail
    | some (.bld ..) => exact .fail
    | some (.tok e rows g' st) =>
      simp only [Option.map_some, Obj.map]
      by_cases hg : (g == g') = true
      · simp only [hg, if_true]
        cases st
        · cases keep <;> exact .pure'' rfl
        · exact .pure'' rfl
        · exact .fail
      · simp only [hg]; exact .fail
omit hφ in
theorem nd_cellAs (keep : Bool) (t : Ty) (y : Cell X) : ND φ (fun r : X × Upd X => (φ r.1, Upd.map φ r.2)) (cellAs keep t y) (cellAs keep t (y.map φ)) := by
  unfold cellAs
  refine .bind (nd_cellData keep y) fun r => .bind (.req _) fun _ => .pure' rfl
omit hφ in
theorem nd_cellsAs (keep : Bool) : ∀ (ts : List Ty) (cs : List (Cell X)), ND φ (fun r : List X × Upd X => (r.1.map φ, Upd.map φ r.2)) (cellsAs keep ts cs) (cellsAs keep ts (cs.map (Cell.map φ)))
  | [], [] => .pure'' rfl
  | t :: ts, c :: cs => .bind (nd_cellAs keep t c) fun r => .bind (nd_cellsAs keep ts cs) fun q => .pure' (by simp)
  | [], _ :: _ => .fail
  | _ :: _, [] => .fail
omit hφ in
theorem nd_slotOk (t : Ty) (y : Cell X) : ND φ (Cell.map φ) (slotOk t y) (slotOk t (y.map φ)) := by
  cases y with
  | d u x =>
    simp only [slotOk, Cell.map]
    split
    · exact .pure'' rfl
    · exact .fail
  | own n g =>
    refine .get _ _ _ fun o => ?_
    match o with
    | none => exact .fail
    | some (.box ..) => exact .fail
    | some (.bld ..) => exact .fail
    | some (.tok e rows g' st) =>
      simp only [Option.map_some, Obj.map]
      split
      · exact .pure'' rfl
      · exact .fail
omit hφ in
theorem nd_slotsOk : ∀ (ts : List Ty) (cs : List (Cell X)), ND φ (List.map (Cell.map φ)) (slotsOk ts cs) (slotsOk ts (cs.map (Cell.map φ)))
  | [], [] => .pure'' rfl
  | t :: ts, c :: cs => .bind (nd_slotOk t c) fun r => .bind (nd_slotsOk ts cs) fun q => .pure' (by simp)
  | [], _ :: _ => .fail
  | _ :: _, [] => .fail
theorem nd_cloX : ∀ (l : List (Cell X ⊕ Name)) (x : X), ND φ φ (cloX l x) (cloX (l.map (Cap.map φ)) (φ x))
  | [], x => .pure'' rfl
  | .inl (.d t y) :: l, x => by
    have := nd_cloX l (f2 (.cap t) x y)
    rw [hφ.f2] at this
    exact this
  | .inl (.own n g) :: l, x => .fail
  | .inr b :: l, x => .fail
theorem nd_cellsOfV (nm : Nat → Name) (ts : List Ty) (v : SV X) : ND φ (fun r : List (Cell X) × Upd X => (r.1.map (Cell.map φ), Upd.map φ r.2)) (cellsOfV nm ts v) (cellsOfV nm ts (v.map φ)) := by
  cases v with
  | c y => exact .bind (nd_slotsOk ts [y]) fun q => .pure' rfl
  | agg xs => exact .bind (nd_slotsOk ts xs) fun q => .pure' rfl
  | nils =>
    simp only [cellsOfV, SV.map]
    split
    · exact .pure'' (by simp [Cell.map, Obj.map, hφ.lit])
    · exact .fail
  | clo f caps =>
    simp only [cellsOfV, SV.map]
    split
    · have := nd_cloX hφ caps (lit (.fn f))
      rw [hφ.lit] at this
      exact .bind this fun q => .pure' rfl
    · exact .fail
  | _ => exact .fail
theorem nd_dataOfV (keep : Bool) (ts : List Ty) (v : SV X) : ND φ (fun r : List X × Upd X => (r.1.map φ, Upd.map φ r.2)) (dataOfV keep ts v) (dataOfV keep ts (v.map φ)) := by
  cases v with
  | c y => exact nd_cellsAs keep ts [y]
  | agg xs => exact nd_cellsAs keep ts xs
  | nils =>
    simp only [dataOfV, SV.map]
    split
    · exact .pure'' (by simp [hφ.lit])
    · exact .fail
  | clo f caps =>
    simp only [dataOfV, SV.map]
    split
    · have := nd_cloX hφ caps (lit (.fn f))
      rw [hφ.lit] at this
      exact .bind this fun q => .pure' rfl
    · exact .fail
  | _ => exact .fail
omit hφ in
theorem nd_valOf (C : Cx) (t : Nat) (cs : List (Cell X)) : valOf C t (cs.map (Cell.map φ)) = (valOf C t cs).map (SV.map φ) := by
  unfold valOf
  split
  · rfl
  · match cs with
    | [] => rfl
    | [c] => rfl
    | _ :: _ :: _ => rfl
omit hφ in
theorem nd_dCells (ts : List Ty) (xs : List X) : dCells ts (xs.map φ) = (dCells ts xs).map (Cell.map φ) := by
  simp [dCells, List.zip_map_right, Cell.map]
omit hφ in
theorem nd_rowsOf (v : SV X) : ND φ (fun r : Nat × X => (r.1, φ r.2)) (rowsOf v) (rowsOf (v.map φ)) := by
  cases v with
  | c y =>
    simp only [rowsOf, SV.map]
    refine .bind (nd_cellData true y) fun r => ?_
    obtain ⟨t, x, u⟩ := r
    cases t <;> first | exact .fail | exact .pure' rfl
  | _ => exact .fail
theorem nd_inBounds (i n : X) : ND φ (id : Unit → Unit) (inBounds i n) (inBounds (φ i) (φ n)) :=
  .bind (.guardE (by rw [hφ.f2, nd_ilit hφ])) fun _ => .guardE (by rw [hφ.f2])
omit hφ in
theorem nd_ret1 (v : SV X) : ND φ (Res.map φ) (ret1 v) (ret1 (v.map φ)) := .pure'' rfl
theorem nd_range (n m : Nat) (r : X) : ((List.range n).map fun q => f1 (.cell (m + q)) (φ r)) = ((List.range n).map fun q => f1 (.cell (m + q)) r).map φ := by simp [hφ.f1]
/-- The last step of a load. -/
theorem nd_val (C : Cx) (t : Nat) {cs : List (Cell X)} {cs' : List (Cell Y)} (h : cs' = cs.map (Cell.map φ)) : ND φ (Res.map φ) (liftO (valOf C t cs) >>= fun v => ret1 v) (liftO (valOf C t cs') >>= fun v => ret1 v) := by
  subst h
  exact .bind (.liftO (nd_valOf C t cs)) fun v => nd_ret1 v
theorem nd_loadV (C : Cx) (t : Nat) (v : SV X) : ND φ (Res.map φ) (loadV C t v) (loadV C t (v.map φ)) := by
  cases v with
  | ref b off =>
    simp only [loadV, SV.map]
    refine .bind (.getE b) fun o => ?_
    match o with
    | none => exact .fail
    | some (.tok ..) => exact .fail
    | some (.bld ..) => exact .fail
    | some (.box T cs) =>
      simp only [Option.map_some, Obj.map]
      refine .bind .liftI fun TS => .bind .liftI fun ts => .bind .liftI fun k => .bind (.req _) fun _ => nd_val hφ C t (by simp [List.map_take, List.map_drop])
  | refi b off n e i j =>
    simp only [loadV, SV.map]
    refine .bind (.getE b) fun o => ?_
    match o with
    | none => exact .fail
    | some (.tok ..) => exact .fail
    | some (.bld ..) => exact .fail
    | some (.box T cs) =>
      simp only [Option.map_some, Obj.map]
      refine .bind .liftI fun TS => .bind .liftI fun k => .bind (.req _) fun _ => ?_
      simp only [id, List.getElem?_map]
      cases cs[k]? with
      | none => exact .fail
      | some y =>
        cases y with
        | own => exact .fail
        | d ty x =>
          simp only [Option.map_some, Cell.map]
          refine .bind .liftI fun es => .bind .liftI fun ts => .bind .liftI fun m => .bind (.req _) fun _ => nd_val hφ C t ?_
          rw [← nd_dCells, ← hφ.f2, nd_range hφ]
          rfl
  | ro r e off =>
    simp only [loadV, SV.map]
    refine .bind .liftI fun es => .bind .liftI fun ts => .bind .liftI fun m => .bind (.req _) fun _ => nd_val hφ C t ?_
    rw [← nd_dCells, nd_range hφ]
    rfl
  | oel n g i off =>
    simp only [loadV, SV.map]
    refine .bind (.getE n) fun o => ?_
    match o with
    | none => exact .fail
    | some (.box ..) => exact .fail
    | some (.bld ..) => exact .fail
    | some (.tok e rows g' st) =>
      simp only [Option.map_some, Obj.map]
      refine .bind (.req _) fun _ => .bind .liftI fun es => .bind .liftI fun ts => .bind .liftI fun m => .bind (.req _) fun _ => nd_val hφ C t ?_
      rw [← nd_dCells, ← hφ.f2, nd_range hφ]
      rfl
  | _ => exact .fail
theorem nd_storeV (C : Cx) (nm : Nat → Name) (t : Nat) (a v : SV X) : ND φ (Upd.map φ) (storeV C nm t a v) (storeV C nm t (a.map φ) (v.map φ)) := by
  cases a with
  | ref b off =>
    simp only [storeV, SV.map]
    refine .bind (.getE b) fun o => ?_
    match o with
    | none => exact .fail
    | some (.tok ..) => exact .fail
    | some (.bld ..) => exact .fail
    | some (.box T cs) =>
      simp only [Option.map_some, Obj.map]
      refine .bind .liftI fun TS => .bind .liftI fun ts => .bind .liftI fun k => .bind (.req _) fun _ => .bind (nd_cellsOfV hφ nm _ v) fun r => .pure' ?_
      simp [Obj.map, List.map_take, List.map_drop]
  | refi b off n e i j =>
    simp only [storeV, SV.map]
    refine .bind (.getE b) fun o => ?_
    match o with
    | none => exact .fail
    | some (.tok ..) => exact .fail
    | some (.bld ..) => exact .fail
    | some (.box T cs) =>
      simp only [Option.map_some, Obj.map]
      refine .bind .liftI fun TS => .bind .liftI fun k => .bind (.req _) fun _ => ?_
      simp only [id, List.getElem?_map]
      cases cs[k]? with
      | none => exact .fail
      | some y =>
        cases y with
        | own => exact .fail
        | d ty x =>
          simp only [Option.map_some, Cell.map]
          refine .bind .liftI fun es => .bind .liftI fun ts => .bind .liftI fun m => .bind (.req _) fun _ => .bind (nd_dataOfV hφ false _ v) fun r => .bind (.req' (by simp)) fun _ => .pure' ?_
          simp only [id, Upd.map_cons, Upd.map_nil, Obj.map, List.map_set, Cell.map, hφ.f3, hφ.f2, ← nd_setRow hφ]
  | oel n g i off =>
    simp only [storeV, SV.map]
    refine .bind (.getE n) fun o => ?_
    match o with
    | none => exact .fail
    | some (.box ..) => exact .fail
    | some (.bld ..) => exact .fail
    | some (.tok e rows g' st) =>
      simp only [Option.map_some, Obj.map]
      refine .bind (.req _) fun _ => .bind .liftI fun es => .bind .liftI fun ts => .bind .liftI fun m => .bind (.req _) fun _ => .bind (nd_dataOfV hφ false _ v) fun r => .bind (.req' (by simp [Upd.map, List.all_map]; rfl)) fun _ => .pure' ?_
      simp only [id, Upd.map_append, Upd.map_cons, Upd.map_nil, Obj.map, hφ.f3, hφ.f2, ← nd_setRow hφ]
  | _ => exact .fail
omit hφ in
theorem nd_fieldAddrV (C : Cx) (s f : Nat) (a : SV X) : fieldAddrV C s f (a.map φ) = (fieldAddrV C s f a).map (SV.map φ) := by
  unfold fieldAddrV
  cases fieldInfo C s f with
  | none => rfl
  | some p =>
    simp only [Option.bind_eq_bind, Option.bind_some]
    split
    · rfl
    · cases a <;> rfl
omit hφ in
theorem nd_fieldV (C : Cx) (s f : Nat) (v : SV X) : ND φ (Res.map φ) (fieldV C s f v) (fieldV C s f (v.map φ)) := by
  cases v with
  | agg xs =>
    simp only [fieldV, SV.map]
    refine .bind .liftI fun p => .bind .liftI fun ss => .bind .liftI fun ts => .bind .liftI fun k => .bind (.req _) fun _ => .bind (nd_slotsOk _ xs) fun ys => ?_
    have : ((ys.map (Cell.map φ)).drop k).take ts.length = ((ys.drop k).take ts.length).map (Cell.map φ) := by simp [List.map_take, List.map_drop]
    simp only [id, this]
    exact .bind (.liftO (nd_valOf C _ _)) fun v => nd_ret1 v
  | _ => exact .fail
theorem nd_indexAddrV (C : Cx) (t : Nat) (x : SV X) (i : X) : ND φ (Res.map φ) (indexAddrV C t x i) (indexAddrV C t (x.map φ) (φ i)) := by
  unfold indexAddrV
  split
  · cases x with
    | c y =>
      cases y with
      | d ty l =>
        simp only [SV.map, Cell.map]
        refine .bind (.req _) fun _ => .bind (by rw [← hφ.f1]; exact nd_inBounds hφ i _) fun _ => .pure'' ?_
        simp [Res.map, TV.map, SV.map, hφ.f2]
      | own n g =>
        simp only [SV.map, Cell.map]
        refine .bind (.getE n) fun o => ?_
        match o with
        | none => exact .fail
        | some (.box ..) => exact .fail
        | some (.bld ..) => exact .fail
        | some (.tok e' rows g' st) =>
          simp only [Option.map_some, Obj.map]
          refine .bind (.req _) fun _ => .bind (by rw [← hφ.f1]; exact nd_inBounds hφ i _) fun _ => ?_
          split
          · exact .pure'' rfl
          · exact .pure'' (by simp [Res.map, TV.map, SV.map, hφ.f2])
    | _ => exact .fail
  · cases x with
    | ref b off =>
      simp only [SV.map]
      refine .bind (.req _) fun _ => .bind (by rw [nd_ilit hφ]; exact nd_inBounds hφ i _) fun _ => .bind .liftI fun _ => .pure'' rfl
    | ro r e' off =>
      simp only [SV.map]
      refine .bind (.req _) fun _ => .bind (by rw [nd_ilit hφ]; exact nd_inBounds hφ i _) fun _ => .bind .liftI fun es => .bind .liftI fun k => .bind (.req _) fun _ => .pure'' ?_
      simp [Res.map, TV.map, SV.map, hφ.f2, hφ.f1]
    | _ => exact .fail
  · exact .fail
omit hφ in
theorem nd_strOf (x : SV X) : strOf (x.map φ) = (strOf x).map φ := by
  cases x with
  | c y => cases y with
    | d t x => cases t <;> rfl
    | own => rfl
  | _ => rfl
omit hφ in
theorem nd_boolOf (x : SV X) : boolOf (x.map φ) = (boolOf x).map φ := by
  cases x with
  | c y => cases y with
    | d t x => cases t <;> rfl
    | own => rfl
  | _ => rfl
omit hφ in
theorem nd_intOf (x : SV X) : intOf (x.map φ) = (intOf x).map (fun r => (r.1, φ r.2)) := by
  cases x with
  | c y => cases y with
    | d t x => cases t <;> rfl
    | own => rfl
  | _ => rfl
omit hφ in
theorem nd_optI (d : X) (o : Option (SV X)) : optI (φ d) (o.map (SV.map φ)) = (optI d o).map φ := by
  cases o with
  | none => rfl
  | some v => simp only [Option.map_some, optI, nd_intOf]; cases intOf v <;> rfl
theorem nd_indexV (C : Cx) (t : Nat) (x : SV X) (i : X) : ND φ (Res.map φ) (indexV C t x i) (indexV C t (x.map φ) (φ i)) := by
  unfold indexV
  split
  · refine .bind (.liftO (nd_strOf x)) fun s => .bind (by rw [← hφ.f1]; exact nd_inBounds hφ i _) fun _ => .pure'' ?_
    simp [Res.map, TV.map, SV.map, Cell.map, vI, hφ.f2]
  · cases x with
    | agg xs =>
      match xs with
      | [.d (.arr n' e') y] =>
        simp only [SV.map, List.map_cons, List.map_nil, Cell.map]
        refine .bind (.req _) fun _ => .bind (by rw [nd_ilit hφ]; exact nd_inBounds hφ i _) fun _ => .bind .liftI fun es => nd_val hφ C _ ?_
        rw [← nd_dCells, ← hφ.f2, nd_rowCells hφ]
        rfl
      | [] => exact .fail
      | [.own n g] => exact .fail
      | [.d (.int _) y] => exact .fail
      | [.d .bool y] => exact .fail
      | [.d .str y] => exact .fail
      | [.d (.sl _) y] => exact .fail
      | [.d (.slc _) y] => exact .fail
      | [.d .fn y] => exact .fail
      | a :: b :: l =>
        cases a with
        | own => exact .fail
        | d ty y => cases ty <;> exact .fail
    | _ => exact .fail
  · exact .fail
theorem nd_sliceV (C : Cx) (t : Nat) (x : SV X) (lo hi mx : Option (SV X)) : ND φ (Res.map φ) (sliceV C t x lo hi mx) (sliceV C t (x.map φ) (lo.map (SV.map φ)) (hi.map (SV.map φ)) (mx.map (SV.map φ))) := by
  have hlen : ∀ a : X, ∀ o, Fw.optI (f1 o (φ a)) (hi.map (SV.map φ)) = (Fw.optI (f1 o a) hi).map φ := fun a o => by rw [← hφ.f1]; exact nd_optI _ _
  have hlo : Fw.optI (ilit 0 : Y) (lo.map (SV.map φ)) = (Fw.optI (ilit 0) lo).map φ := by rw [nd_ilit hφ]; exact nd_optI _ _
  unfold sliceV
  generalize C.P.underlying t = u
  cases u with
  | none => cases mx <;> exact .fail
  | some d =>
    cases mx with
    | none =>
      cases d with
      | string =>
        simp only [Option.map_none]
        refine .bind (.liftO (nd_strOf x)) fun s => ?_
        refine .bind (.liftO (hlen s .slen)) fun h => ?_
        refine .bind (.liftO hlo) fun l => ?_
        refine .bind (.guardE (by rw [hφ.f2, nd_ilit hφ])) fun _ => .bind (.guardE (by rw [hφ.f2, hφ.f1])) fun _ => .bind (.guardE (by rw [hφ.f2, nd_ilit hφ])) fun _ => .bind (.guardE (by rw [hφ.f2])) fun _ => .pure'' ?_
        simp [Res.map, TV.map, SV.map, Cell.map, vS, hφ.f3]
      | slice e =>
        cases x with
        | c y =>
          simp only [SV.map, Option.map_none]
          refine .bind (nd_cellData false y) fun r => .bind (.req _) fun _ => ?_
          refine .bind (.liftO (hlen r.2.1 .llen)) fun h => ?_
          refine .bind (.liftO hlo) fun l => ?_
          refine .bind (.guardE (by rw [hφ.f2, nd_ilit hφ])) fun _ => .bind (.guardE (by rw [hφ.f2, hφ.f1])) fun _ => .bind (.guardE (by rw [hφ.f2, nd_ilit hφ])) fun _ => .bind (.guardE (by rw [hφ.f2])) fun _ => .pure'' ?_
          simp [Res.map, TV.map, SV.map, Cell.map, hφ.f3]
        | _ => exact .fail
      | _ => exact .fail
    | some m =>
      cases d with
      | slice e =>
        cases x with
        | c y =>
          simp only [SV.map, Option.map_some]
          refine .bind (nd_cellData false y) fun r => .bind (.req _) fun _ => ?_
          cases hi with
          | none => exact .fail
          | some v =>
            simp only [Option.map_some]
            refine .bind (.liftO (nd_intOf v)) fun h => ?_
            refine .bind (.liftO hlo) fun l => ?_
            refine .bind (.liftO (nd_intOf m)) fun m => ?_
            refine .bind (.guardE (by rw [hφ.f2, nd_ilit hφ])) fun _ => .bind (.guardE (by rw [hφ.f2, hφ.f1])) fun _ => .bind (.guardE (by rw [hφ.f2, nd_ilit hφ])) fun _ => .bind (.guardE (by rw [hφ.f2])) fun _ => .bind (.guardE (by rw [hφ.f2])) fun _ => .pure'' ?_
            simp [Res.map, TV.map, SV.map, Cell.map, hφ.f3]
        | _ => exact .fail
      | _ => exact .fail
theorem nd_room (C : Cx) (e : Nat) (n : X) : ND φ (id : Unit → Unit) (room C e n) (room C e (φ n)) :=
  .bind (.req _) fun _ => .guardE (by rw [hφ.f2, nd_ilit hφ])
theorem nd_mapM {A : Type} (g : A → Option X) (g' : A → Option Y) (h : ∀ a, g' a = (g a).map φ) (l : List A) : l.mapM g' = (l.mapM g).map (List.map φ) := by
  induction l with
  | nil => simp
  | cons a l ih =>
    simp only [List.mapM_cons, ih, h]
    cases g a <;> simp
    cases l.mapM g <;> simp
theorem nd_makeSliceV (C : Cx) (nm : Nat → Name) (t : Nat) (l c : SV X) : ND φ (Res.map φ) (makeSliceV C nm t l c) (makeSliceV C nm t (l.map φ) (c.map φ)) := by
  unfold makeSliceV
  split
  · refine .bind (.liftO (nd_intOf l)) fun l => .bind (.liftO (nd_intOf c)) fun c => .bind (.req _) fun _ => .bind (.guardE (by rw [hφ.f2, nd_ilit hφ])) fun _ => .bind (.guardE (by rw [hφ.f2])) fun _ => .bind (nd_room hφ C _ _) fun _ => .bind .liftI fun es => .bind (.liftO (nd_mapM hφ _ _ (nd_zeroX hφ C 4) _)) fun zs => .pure'' ?_
    simp [Res.map, TV.map, SV.map, Cell.map, Obj.map, hφ.f2, nd_mkRow hφ]
  · exact .fail
theorem nd_lenV (C : Cx) (t : Nat) (x : SV X) : ND φ (Res.map φ) (lenV C t x) (lenV C t (x.map φ)) := by
  unfold lenV
  split
  · refine .bind (.liftO (nd_strOf x)) fun s => .pure'' ?_
    simp [Res.map, TV.map, SV.map, Cell.map, vI, hφ.f1]
  · have key : ∀ e, ND φ (Res.map φ) (rowsOf x >>= fun p => do Fw.req (e == p.1); Fw.ret1 (vI .i64 (f1 .llen p.2))) (rowsOf (x.map φ) >>= fun p => do Fw.req (e == p.1); Fw.ret1 (vI .i64 (f1 .llen p.2))) := by
      intro e
      refine .bind (nd_rowsOf x) fun r => .bind (.req _) fun _ => .pure'' ?_
      simp [Res.map, TV.map, SV.map, Cell.map, vI, hφ.f1]
    cases x <;> first
      | exact key _
      | exact .pure'' (by simp [Res.map, TV.map, SV.map, Cell.map, vI, nd_ilit hφ])
  · exact .pure'' (by simp [Res.map, TV.map, SV.map, Cell.map, vI, nd_ilit hφ])
  · exact .fail
theorem nd_addend (e : Nat) (x : SV X) : ND φ φ (addend e x) (addend e (x.map φ)) := by
  cases x with
  | nils => exact .pure'' (hφ.lit _).symm
  | c y => exact .bind (nd_cellData true y) fun r => .bind (.req _) fun _ => .pure' rfl
  | _ => exact .fail
theorem nd_appendV (C : Cx) (nm : Nat → Name) (t u : Nat) (a b : SV X) : ND φ (Res.map φ) (appendV C nm t u a b) (appendV C nm t u (a.map φ) (b.map φ)) := by
  unfold appendV
  split
  · refine .bind (.req _) fun _ => .bind .liftI fun es => .bind (.req _) fun _ => .bind (nd_addend hφ _ b) fun y => ?_
    cases a with
    | nils =>
      simp only [SV.map]
      exact .bind (by rw [← hφ.f1]; exact nd_room hφ C _ _) fun _ => .pure'' rfl
    | c x =>
      cases x with
      | own n g =>
        simp only [SV.map, Cell.map]
        refine .bind (.getE n) fun o => ?_
        match o with
        | none => exact .fail
        | some (.box ..) => exact .fail
        | some (.bld ..) => exact .fail
        | some (.tok e' rows g' st) =>
          simp only [Option.map_some, Obj.map]
          exact .bind (.req _) fun _ => .bind (by rw [← hφ.f2, ← hφ.f1]; exact nd_room hφ C _ _) fun _ => .pure'' (by simp [Res.map, TV.map, SV.map, Cell.map, Obj.map, hφ.f2])
      | d ty x =>
        cases ty with
        | slc e' =>
          simp only [SV.map, Cell.map]
          exact .bind (.req _) fun _ => .bind (.guardE (by rw [hφ.f2, hφ.f2, hφ.f1, hφ.f1, nd_ilit hφ])) fun _ => .bind (by rw [← hφ.f2, ← hφ.f1]; exact nd_room hφ C _ _) fun _ => .pure'' (by simp [Res.map, TV.map, SV.map, Cell.map, Obj.map, hφ.f2])
        | _ => exact .fail
    | _ => exact .fail
  · exact .fail
end
end Go.Fw
/- The framework, part 21: the same, for the rest of the operations. -/
namespace Go.Fw
open Alg
theorem Eff.bind_pure {X A : Type} (e : Eff X A) : e.bind .pure = e := by
  induction e with
  | pure a => rfl
  | fail => rfl
  | guard c k ih => simp only [Eff.bind, ih]
  | ite c a b iha ihb => simp only [Eff.bind, iha, ihb]
  | get n k ih => simp only [Eff.bind, ih]
  | call f xs n k ih => simp only [Eff.bind, ih]
  | callv s x xs n k ih => simp only [Eff.bind, ih]
theorem Eff.bind_assoc {X A B A' : Type} (e : Eff X A) (f : A → Eff X B) (g : B → Eff X A') : (e.bind f).bind g = e.bind fun a => (f a).bind g := by
  induction e with
  | pure a => rfl
  | fail => rfl
  | guard c k ih => simp only [Eff.bind, ih]
  | ite c a b iha ihb => simp only [Eff.bind, iha, ihb]
  | get n k ih => simp only [Eff.bind, ih]
  | call f xs n k ih => simp only [Eff.bind, ih]
  | callv s x xs n k ih => simp only [Eff.bind, ih]
instance {X : Type} : LawfulMonad (Eff X) := LawfulMonad.mk' _ (fun e => Eff.bind_pure e) (fun _ _ => rfl) (fun e f g => Eff.bind_assoc e f g)
section
variable {X Y : Type} [Alg X] [Alg Y] {φ : X → Y} (hφ : Hom φ)
include hφ
theorem res_vI (k : IntKind) (x : X) (y : Y) (h : y = φ x) : ND φ (Res.map φ) (ret1 (vI k x)) (ret1 (vI k y)) := by subst h; exact .pure'' rfl
theorem res_vB (x : X) (y : Y) (h : y = φ x) : ND φ (Res.map φ) (ret1 (vB x)) (ret1 (vB y)) := by subst h; exact .pure'' rfl
theorem res_vS (x : X) (y : Y) (h : y = φ x) : ND φ (Res.map φ) (ret1 (vS x)) (ret1 (vS y)) := by subst h; exact .pure'' rfl
theorem nd_unOpV (op : UnOp) (x : SV X) : ND φ (Res.map φ) (unOpV op x) (unOpV op (x.map φ)) := by
  cases x with
  | c y =>
    cases y with
    | d t x => cases t <;> cases op <;> first
      | exact .fail
      | exact res_vI hφ _ _ _ (by rw [hφ.f1])
      | exact res_vB hφ _ _ (by rw [hφ.f1])
    | own => cases op <;> exact .fail
  | _ => cases op <;> exact .fail
theorem nd_convertV (C : Cx) (s t : Nat) (x : SV X) : ND φ (Res.map φ) (convertV C s t x) (convertV C s t (x.map φ)) := by
  unfold convertV
  generalize C.P.underlying s = u
  generalize C.P.underlying t = u'
  have hsl : ∀ e (x : SV X), ND φ (Res.map φ) (do
      req (match C.P.underlying e with | some (.int .u8) => true | _ => false)
      req (C.tab e == some [.int .u8])
      let (e', y) ← rowsOf x
      req (e == e')
      ret1 (vS (f1 .strOf y))) (do
      req (match C.P.underlying e with | some (.int .u8) => true | _ => false)
      req (C.tab e == some [.int .u8])
      let (e', y) ← rowsOf (x.map φ)
      req (e == e')
      ret1 (vS (f1 .strOf y))) := fun e x => .bind (.req _) fun _ => .bind (.req _) fun _ => .bind (nd_rowsOf x) fun r => .bind (.req _) fun _ => res_vS hφ _ _ (by rw [hφ.f1])
  cases u with
  | none => exact .fail
  | some d =>
    cases u' with
    | none => cases d <;> exact .fail
    | some d' =>
      cases d with
      | int k =>
        cases d' with
        | int k' =>
          cases x with
          | c y => cases y with
            | d t x => cases t <;> first
              | exact .fail
              | exact res_vI hφ _ _ _ (by rw [hφ.f1])
            | own => exact .fail
          | _ => exact .fail
        | _ => exact .fail
      | slice e =>
        cases d' with
        | string => exact hsl e x
        | _ => exact .fail
      | string =>
        cases d' with
        | string =>
          cases x with
          | c y => cases y with
            | d t x => cases t <;> first
              | exact .fail
              | exact res_vS hφ _ _ rfl
            | own => exact .fail
          | _ => exact .fail
        | slice e =>
          cases x with
          | c y => cases y with
            | d t x => cases t <;> first
              | exact .fail
              | exact .bind (.req _) fun _ => .bind (.req _) fun _ => .bind (.guardE (by rw [hφ.f2, hφ.f1, nd_ilit hφ])) fun _ => .pure'' (by simp [Res.map, TV.map, SV.map, Cell.map, hφ.f1])
            | own => exact .fail
          | _ => exact .fail
        | _ => exact .fail
      | _ => exact .fail
theorem nd_mkBool (bs : List X) : mkBool (bs.map φ) = φ (mkBool bs) := by
  cases bs <;> simp [mkBool, hφ.lit]
theorem nd_binInt (C : Cx) (op : BinOp) (t : Nat) (k k' : IntKind) (a b : X) : ND φ (Res.map φ) (binOpV C op t (.c (.d (.int k) a)) (.c (.d (.int k') b))) (binOpV C op t (.c (.d (.int k) (φ a))) (.c (.d (.int k') (φ b)))) := by
  cases op <;> simp only [binOpV] <;> first
    | exact .bind (.guardE (by rw [hφ.f2, nd_ilit hφ])) fun _ => res_vI hφ _ _ _ (by rw [hφ.f2])
    | exact .bind (.req _) fun _ => res_vI hφ _ _ _ (by rw [hφ.f2])
    | exact .bind (.req _) fun _ => res_vB hφ _ _ (by rw [hφ.f2])
    | exact .bind (.req _) fun _ => .bind (.guardE (by rw [hφ.f2, nd_ilit hφ])) fun _ => res_vI hφ _ _ _ (by rw [hφ.f2])
    | exact .bind (.req _) fun _ => .fail
theorem nd_binBool (C : Cx) (op : BinOp) (t : Nat) (a b : X) : ND φ (Res.map φ) (binOpV C op t (.c (.d .bool a)) (.c (.d .bool b))) (binOpV C op t (.c (.d .bool (φ a))) (.c (.d .bool (φ b)))) := by
  cases op <;> simp only [binOpV] <;> refine .bind (.req _) fun _ => ?_ <;> first
    | exact res_vB hφ _ _ (by rw [hφ.f2])
    | exact .fail
theorem nd_binStr (C : Cx) (op : BinOp) (t : Nat) (a b : X) : ND φ (Res.map φ) (binOpV C op t (.c (.d .str a)) (.c (.d .str b))) (binOpV C op t (.c (.d .str (φ a))) (.c (.d .str (φ b)))) := by
  cases op <;> simp only [binOpV] <;> first
    | exact res_vB hφ _ _ (by rw [hφ.f2])
    | exact .bind (.guardE (by rw [hφ.f2, hφ.f2, hφ.f1, hφ.f1, nd_ilit hφ])) fun _ => .bind (.guardE (by rw [hφ.f2, hφ.f1, nd_ilit hφ])) fun _ => .bind (.guardE (by rw [hφ.f2, hφ.f1, nd_ilit hφ])) fun _ => res_vS hφ _ _ (by rw [hφ.f2])
    | exact .fail
theorem nd_binNil (C : Cx) (op : BinOp) (t : Nat) (x : Cell X) : ND φ (Res.map φ) (binOpV C op t (.c x) .nils) (binOpV C op t (.c (x.map φ)) .nils) := by
  simp only [binOpV]
  refine .bind (.req _) fun _ => .bind (nd_cellData true x) fun r => .bind (.req _) fun _ => ?_
  refine .ite' (by rw [hφ.f2, hφ.f1, nd_ilit hφ]) (.call _ _ _ _ _ fun bs => ?_) ?_
  · cases op <;> first
      | exact .fail
      | exact res_vB hφ _ _ (by rw [hφ.f2, hφ.lit, nd_mkBool hφ])
  · cases op <;> first
      | exact .fail
      | exact res_vB hφ _ _ (by rw [hφ.lit])
theorem nd_binAgg (C : Cx) (op : BinOp) (t : Nat) (xs ys : List (Cell X)) : ND φ (Res.map φ) (binOpV C op t (.agg xs) (.agg ys)) (binOpV C op t (.agg (xs.map (Cell.map φ))) (.agg (ys.map (Cell.map φ)))) := by
  simp only [binOpV]
  refine .bind (.req _) fun _ => .bind .liftI fun ts => .bind (.req _) fun _ => .bind (nd_cellsAs true _ xs) fun r => .bind (nd_cellsAs true _ ys) fun q => ?_
  cases op <;> first
    | exact .fail
    | exact res_vB hφ _ _ (by rw [hφ.f2, nd_mkRow hφ, nd_mkRow hφ])
theorem nd_binOpV (C : Cx) (op : BinOp) (t : Nat) (x y : SV X) : ND φ (Res.map φ) (binOpV C op t x y) (binOpV C op t (x.map φ) (y.map φ)) := by
  cases x with
  | c a =>
    cases y with
    | c b =>
      cases a with
      | d ta a =>
        cases b with
        | d tb b => cases ta <;> cases tb <;> first
          | exact .fail
          | exact nd_binInt hφ C op t _ _ a b
          | exact nd_binBool hφ C op t a b
          | exact nd_binStr hφ C op t a b
        | own => cases ta <;> exact .fail
      | own => cases b <;> exact .fail
    | nils => exact nd_binNil hφ C op t a
    | _ => cases a with
      | d ta a => cases ta <;> exact .fail
      | own => exact .fail
  | agg xs =>
    cases y with
    | agg ys => exact nd_binAgg hφ C op t xs ys
    | _ => exact .fail
  | _ => exact .fail
theorem nd_zeroCells (C : Cx) (nm : Nat → Name) : ∀ (ts : List Ty) (k : Nat), zeroCells (X := Y) C nm k ts = (zeroCells (X := X) C nm k ts).map fun r => (r.1.map (Cell.map φ), Upd.map φ r.2)
  | [], k => by simp [zeroCells]
  | t :: ts, k => by
    have ih := nd_zeroCells C nm ts (k + 1)
    have hz := nd_zeroX hφ C 4 t
    cases t with
    | sl e =>
      simp only [zeroCells, Option.bind_eq_bind, ih]
      cases C.tab e with
      | none => rfl
      | some ts' =>
        simp only [Option.bind_some]
        cases zeroCells (X := X) C nm (k + 1) ts <;> simp [Cell.map, Obj.map, hφ.lit]
    | _ =>
      simp only [zeroCells, Option.bind_eq_bind, ih, hz]
      cases zeroX (X := X) C 4 _ <;> simp
      cases zeroCells (X := X) C nm (k + 1) ts <;> simp [Cell.map]
theorem nd_allocV (C : Cx) (nm : Nat → Name) (T : Nat) : allocV (X := Y) C nm T = (allocV (X := X) C nm T).map (Res.map φ) := by
  unfold allocV
  cases C.tab T with
  | none => rfl
  | some ts =>
    simp only [Option.bind_eq_bind, Option.bind_some, nd_zeroCells hφ]
    cases zeroCells (X := X) C nm 1 ts <;> simp [Res.map, TV.map, SV.map, Obj.map]
theorem nd_boxV (C : Cx) (nm : Nat → Name) (T : Nat) (v : SV X) : ND φ (Res.map φ) (boxV C nm T v) (boxV C nm T (v.map φ)) :=
  .bind .liftI fun ts => .bind (nd_cellsOfV hφ _ _ v) fun r => .pure'' (by simp [Res.map, TV.map, SV.map, Obj.map])
def pmap (φ : X → Y) (ps : List (Nat × SV X)) : List (Nat × SV Y) := ps.map fun p => (p.1, p.2.map φ)
theorem nd_buildParts (C : Cx) (nm : Nat → Name) (T : Nat) (TS : List Ty) : ∀ (ps : List (Nat × SV X)) (q : Nat) (cs : List (Cell X)) (u : Upd X),
    ND φ (fun r : List (Cell X) × Upd X => (r.1.map (Cell.map φ), Upd.map φ r.2)) (buildParts C nm T TS q ps cs u) (buildParts C nm T TS q (pmap φ ps) (cs.map (Cell.map φ)) (Upd.map φ u))
  | [], q, cs, u => .pure'' rfl
  | (i, v) :: ps, q, cs, u => by
    simp only [buildParts, pmap, List.map_cons]
    refine .bind .liftI fun p => .bind .liftI fun ts => .bind .liftI fun k => .bind (.req _) fun _ => .bind (nd_cellsOfV hφ _ _ v) fun r => ?_
    have := nd_buildParts C nm T TS ps (q + 1) (cs.take k ++ r.1 ++ cs.drop (k + ts.length)) (u ++ r.2)
    simp only [List.map_append, List.map_take, List.map_drop, Upd.map_append, pmap] at this
    exact this
theorem nd_buildElems (C : Cx) (es : List Ty) : ∀ (ps : List (Nat × SV X)) (y : X), ND φ φ (buildElems C es ps y) (buildElems C es (pmap φ ps) (φ y))
  | [], y => .pure'' rfl
  | (i, v) :: ps, y => by
    simp only [buildElems, pmap, List.map_cons]
    refine .bind (nd_dataOfV hφ false _ v) fun r => .bind (.req' (by simp)) fun _ => ?_
    have := nd_buildElems C es ps (f3 .lset y (ilit i) (mkRow r.1))
    rw [hφ.f3, ← nd_ilit hφ, ← nd_mkRow hφ] at this
    exact this
theorem nd_buildV (C : Cx) (nm : Nat → Name) (T : Nat) (ps : List (Nat × SV X)) : ND φ (Res.map φ) (buildV C nm T ps) (buildV C nm T (pmap φ ps)) := by
  unfold buildV
  split
  · refine .bind .liftI fun ts => .bind (.req _) fun _ => .bind (.liftO (nd_zeroCells hφ C nm _ 0)) fun r => .bind (nd_buildParts hφ C nm T _ ps 0 r.1 r.2) fun q => .pure'' ?_
    simp [Res.map, TV.map, SV.map]
  · refine .bind .liftI fun es => .bind (.liftO (nd_zeroX hφ C 4 _)) fun z => .bind (.req' ?_) fun _ => .bind (nd_buildElems hφ C _ ps z) fun y => .pure'' ?_
    · simp [pmap, List.all_map]; rfl
    · simp [Res.map, TV.map, SV.map, Cell.map]
  · exact .fail
theorem nd_litRows (es : List Ty) : ∀ (ps : List (Nat × SV X)) (i : Nat), ND φ (fun r : X × Upd X => (φ r.1, Upd.map φ r.2)) (litRows es i ps) (litRows es i (pmap φ ps))
  | [], i => .pure'' (by simp [hφ.lit])
  | (j, v) :: ps, i => by
    simp only [litRows, pmap, List.map_cons]
    refine .bind (.req _) fun _ => .bind (nd_dataOfV hφ false _ v) fun r => .bind (nd_litRows es ps (i + 1)) fun q => .pure'' ?_
    simp [hφ.f2, nd_mkRow hφ]
theorem nd_buildSliceV (C : Cx) (nm : Nat → Name) (T n : Nat) (ps : List (Nat × SV X)) : ND φ (Res.map φ) (buildSliceV C nm T n ps) (buildSliceV C nm T n (pmap φ ps)) := by
  unfold buildSliceV
  split
  · refine .bind .liftI fun es => .bind (.req' (by simp [pmap])) fun _ => .bind (nd_litRows hφ _ ps 0) fun r => .pure'' ?_
    simp [Res.map, TV.map, SV.map, Cell.map, Obj.map]
  · exact .fail
theorem nd_ownedIn (keep : Bool) : ∀ (ocs : List (Ty × Bool)) (cs : List (Cell X)), ND φ (fun r : List X × Upd X => (r.1.map φ, Upd.map φ r.2)) (ownedIn ocs cs keep) (ownedIn ocs (cs.map (Cell.map φ)) keep)
  | [], [] => .pure'' rfl
  | (t, o) :: ocs, c :: cs => by
    simp only [ownedIn, List.map_cons]
    have tail : ∀ r : X × Upd X, ND φ (fun r : List X × Upd X => (r.1.map φ, Upd.map φ r.2)) (do let (xs, us) ← ownedIn ocs cs keep; pure (r.1 :: xs, r.2 ++ us)) (do let (xs, us) ← ownedIn ocs (cs.map (Cell.map φ)) keep; pure (φ r.1 :: xs, Upd.map φ r.2 ++ us)) :=
      fun r => .bind (nd_ownedIn keep ocs cs) fun q => .pure' (by simp)
    cases o with
    | false => exact .bind (nd_cellAs keep t c) tail
    | true =>
      cases c with
      | d => exact .fail
      | own n g =>
        simp only [Cell.map]
        refine ND.bind (g := fun r : X × Upd X => (φ r.1, Upd.map φ r.2)) ?_ tail
        refine .bind (.getE n) fun o => ?_
        match o with
        | none => exact .fail
        | some (.box ..) => exact .fail
        | some (.bld ..) => exact .fail
        | some (.tok e rows g' st) =>
          simp only [Option.map_some, Obj.map]
          exact .bind (.req _) fun _ => .pure' rfl
  | [], _ :: _ => .fail
  | _ :: _, [] => .fail
theorem nd_argIn (keep : Bool) (p : PK) (v : SV X) : ND φ (fun r : List X × Upd X × Option Name => (r.1.map φ, Upd.map φ r.2.1, r.2.2)) (argIn keep p v) (argIn keep p (v.map φ)) := by
  have hval : ∀ ocs (cs : List (Cell X)), ND φ (fun r : List X × Upd X × Option Name => (r.1.map φ, Upd.map φ r.2.1, r.2.2)) (do let (xs, u) ← ownedIn ocs cs keep; pure (xs, u, none)) (do let (xs, u) ← ownedIn ocs (cs.map (Cell.map φ)) keep; pure (xs, u, none)) := fun ocs cs => .bind (nd_ownedIn hφ keep ocs cs) fun r => .pure' rfl
  cases p with
  | val agg ocs =>
    cases agg with
    | true =>
      cases v with
      | agg cs => exact hval ocs cs
      | _ => exact .fail
    | false =>
      cases v with
      | c y => exact hval ocs [y]
      | nils =>
        match ocs with
        | [(.sl _, false)] => exact .pure' (by simp [hφ.lit])
        | [(.sl _, true)] => exact .fail
        | [] => exact .fail
        | [(.int _, _)] => exact .fail
        | [(.bool, _)] => exact .fail
        | [(.str, _)] => exact .fail
        | [(.slc _, _)] => exact .fail
        | [(.arr _ _, _)] => exact .fail
        | [(.fn, _)] => exact .fail
        | (a, b) :: c :: l => cases a <;> cases b <;> exact .fail
      | clo f caps =>
        match ocs with
        | [(.fn, false)] =>
          have := nd_cloX hφ caps (lit (.fn f))
          rw [hφ.lit] at this
          exact .bind this fun x => .pure' rfl
        | [(.fn, true)] => exact .fail
        | [] => exact .fail
        | [(.int _, _)] => exact .fail
        | [(.bool, _)] => exact .fail
        | [(.str, _)] => exact .fail
        | [(.slc _, _)] => exact .fail
        | [(.sl _, _)] => exact .fail
        | [(.arr _ _, _)] => exact .fail
        | (a, b) :: c :: l => cases a <;> cases b <;> exact .fail
      | _ => exact .fail
  | box T ocs =>
    cases v with
    | ref b off =>
      simp only [argIn, SV.map]
      refine .bind (.req _) fun _ => .bind (.getE b) fun o => ?_
      match o with
      | none => exact .fail
      | some (.tok ..) => exact .fail
      | some (.bld ..) => exact .fail
      | some (.box T' cs) =>
        simp only [Option.map_some, Obj.map]
        exact .bind (.req _) fun _ => .bind (nd_ownedIn hφ keep ocs cs) fun r => .pure' rfl
    | _ => exact .fail
theorem nd_argsIn (keep : Bool) : ∀ (ps : List PK) (vs : List (SV X)), ND φ (fun r : List X × Upd X × List (Name × PK) => (r.1.map φ, Upd.map φ r.2.1, r.2.2)) (argsIn keep ps vs) (argsIn keep ps (vs.map (SV.map φ)))
  | [], [] => .pure'' rfl
  | p :: ps, v :: vs => .bind (nd_argIn hφ keep p v) fun r => .bind (nd_argsIn keep ps vs) fun q => .pure' (by simp)
  | [], _ :: _ => .fail
  | _ :: _, [] => .fail
theorem nd_cellsBack (nm : Nat → Name) : ∀ (ocs : List (Ty × Bool)) (q : Nat) (xs : List X), cellsBack nm q ocs (xs.map φ) = ((cellsBack nm q ocs xs).1.map (Cell.map φ), Upd.map φ (cellsBack nm q ocs xs).2)
  | [], q, xs => by simp [cellsBack]
  | (t, o) :: ocs, q, [] => by cases t <;> cases o <;> simp [cellsBack]
  | (t, o) :: ocs, q, x :: xs => by
    have ih := nd_cellsBack nm ocs (q + 1) xs
    cases t <;> cases o <;> simp only [cellsBack, List.map_cons, ih, Cell.map, Upd.map_cons, Obj.map]
theorem nd_resBack (nm : Nat → Name) : ∀ (rs : List RK) (q : Nat) (xs : List X), resBack nm q rs (xs.map φ) = (resBack nm q rs xs).map fun r => (r.1.map (SV.map φ), Upd.map φ r.2.1, r.2.2.map φ)
  | [], q, xs => by simp [resBack]
  | .val agg ocs :: rs, q, xs => by
    simp only [resBack, List.length_map, ← List.map_take, ← List.map_drop, nd_cellsBack hφ, nd_resBack nm rs]
    split
    · rfl
    · generalize cellsBack nm q ocs (xs.take ocs.length) = cb
      obtain ⟨cs, u⟩ := cb
      cases agg with
      | true =>
        simp only [if_true, Option.bind_eq_bind, Option.bind_some]
        cases resBack nm (q + 1000) rs (xs.drop ocs.length) <;> simp [SV.map]
      | false =>
        match cs with
        | [] => simp
        | [c] =>
          simp only [Option.bind_eq_bind]
          cases resBack nm (q + 1000) rs (xs.drop ocs.length) <;> simp [SV.map]
        | a :: b :: l => simp
  | .newbox T ocs :: rs, q, xs => by
    simp only [resBack, List.length_map, ← List.map_take, ← List.map_drop, nd_cellsBack hφ, nd_resBack nm rs]
    split
    · rfl
    · generalize cellsBack nm (q + 1) ocs (xs.take ocs.length) = cb
      obtain ⟨cs, u⟩ := cb
      simp only [Option.bind_eq_bind]
      cases resBack nm (q + 1000) rs (xs.drop ocs.length) <;> simp [SV.map, Obj.map]
theorem nd_boxesBack (nm : Nat → Name) : ∀ (bs : List (Name × PK)) (q : Nat) (xs : List X), boxesBack nm q bs (xs.map φ) = (boxesBack nm q bs xs).map (Upd.map φ)
  | [], q, [] => by simp [boxesBack]
  | [], q, x :: xs => by simp [boxesBack]
  | (b, .val ..) :: bs, q, xs => by simp [boxesBack]
  | (b, .box T ocs) :: bs, q, xs => by
    simp only [boxesBack, List.length_map, ← List.map_take, ← List.map_drop, nd_cellsBack hφ, nd_boxesBack nm bs]
    split
    · rfl
    · generalize cellsBack nm q ocs (xs.take ocs.length) = cb
      obtain ⟨cs, u⟩ := cb
      simp only [Option.bind_eq_bind]
      cases boxesBack nm (q + 1000) bs (xs.drop ocs.length) <;> simp [Obj.map]
omit hφ in
theorem nd_tvs (vs : List (SV X)) : tvOf (vs.map (SV.map φ)) = TV.map φ (tvOf vs) := by
  match vs with
  | [] => rfl
  | [v] => rfl
  | a :: b :: l => rfl
theorem nd_callV (C : Cx) (nm : Nat → Name) (f : Nat) (args : List (SV X)) : ND φ (Res.map φ) (callV C nm f args) (callV C nm f (args.map (SV.map φ))) := by
  unfold callV
  refine .bind .liftI fun sg => .bind (nd_argsIn hφ _ _ args) fun r => .bind (.req' ?_) fun _ => .call _ _ _ _ _ fun ys => ?_
  · simp [Upd.map]
    rfl
  · refine .bind (.liftO (nd_resBack hφ nm _ _ ys)) fun q => .bind (.liftO (nd_boxesBack hφ nm _ _ _)) fun u => .pure'' ?_
    simp only [Res.map, nd_tvs, Upd.map_append]
theorem nd_callvV (C : Cx) (x : X) (ats : List Nat) (rt : Nat) (args : List (SV X)) : ND φ (Res.map φ) (callvV C x ats rt args) (callvV C (φ x) ats rt (args.map (SV.map φ))) := by
  unfold callvV
  refine .bind .liftI fun ps => .bind .liftI fun rs => .bind (.req _) fun _ => .bind (nd_argsIn hφ _ _ args) fun r => .bind (.req' (by simp)) fun _ => .callv _ _ _ _ _ _ fun ys => ?_
  refine .bind (.liftO (nd_resBack hφ _ _ _ ys)) fun q => .bind (.req' (by simp)) fun _ => .pure'' ?_
  simp [Res.map, nd_tvs]
omit hφ in
theorem nd_capsSV (caps : List (Cell X ⊕ Name)) : capsSV (caps.map (Cap.map φ)) = (capsSV caps).map (SV.map φ) := by
  simp only [capsSV, List.map_map]
  apply List.map_congr_left
  intro x _
  cases x <;> rfl
omit hφ in
theorem nd_moveV (o : Option (TV X)) : ND φ (Res.map φ) (moveV o) (moveV (o.map (TV.map φ))) := by
  match o with
  | none => exact .fail
  | some (.tup vs) => exact .pure'' rfl
  | some (.one v) => cases v <;> first | exact .fail | exact .pure'' rfl
omit hφ in
theorem nd_one? (tv : TV X) : one? (tv.map φ) = (one? tv).map (SV.map φ) := by
  match tv with
  | .tup vs => rfl
  | .one v => cases v <;> rfl
theorem nd_constV (v : Value) : constV (X := Y) v = (constV (X := X) v).map (SV.map φ) := by
  unfold constV
  split <;> simp [vI, vB, vS, SV.map, Cell.map, hφ.lit, nd_ilit hφ]
theorem nd_rdOpd (tmps : List (TV X)) (x : Operand) : rdOpd (tmps.map (TV.map φ)) x = (rdOpd tmps x).map (TV.map φ) := by
  cases x with
  | tmp t => simp [rdOpd]
  | const v => simp only [rdOpd, nd_constV hφ]; cases constV (X := X) v <;> simp [TV.map]
  | func f => simp [rdOpd, TV.map, SV.map]
  | global g => rfl
omit hφ in
theorem nd_list {A B A' : Type} (g : A → B) (f : A' → Eff X A) (f' : A' → Eff Y B) (h : ∀ a, ND φ g (f a) (f' a)) : ∀ l : List A', ND φ (List.map g) (l.mapM f) (l.mapM f')
  | [] => .pure'' rfl
  | a :: l => by
    simp only [List.mapM_cons]
    exact .bind (h a) fun b => .bind (nd_list g f f' h l) fun bs => .pure' rfl
theorem nd_stepOp (C : Cx) (nm : Nat → Name) (ρ : Operand → Option (TV X)) (ρ' : Operand → Option (TV Y)) (hρ : ∀ x, ρ' x = (ρ x).map (TV.map φ)) (o : Oper) : ND φ (Res.map φ) (stepOp C nm ρ o) (stepOp C nm ρ' o) := by
  have hv : ∀ x, ND φ (SV.map φ) (liftO ((ρ x).bind one?)) (liftO ((ρ' x).bind one?)) := fun x => .liftO (by
    rw [hρ]
    cases ρ x with
    | none => rfl
    | some tv => exact nd_one? tv)
  have hopt : ∀ x : Option Operand, ND φ (Option.map (SV.map φ)) (optV (fun x => liftO ((ρ x).bind one?)) x) (optV (fun x => liftO ((ρ' x).bind one?)) x) := fun x => by
    cases x with
    | none => exact .pure'' rfl
    | some y => exact .bind (hv y) fun v => .pure' rfl
  have hparts : ∀ ps : List (Nat × Operand), ND φ (pmap φ) (ps.mapM fun p => do pure (p.1, ← liftO ((ρ p.2).bind one?))) (ps.mapM fun p => do pure (p.1, ← liftO ((ρ' p.2).bind one?))) := fun ps =>
    nd_list (fun p : Nat × SV X => (p.1, p.2.map φ)) (fun p : Nat × Operand => do pure (p.1, ← liftO ((ρ p.2).bind one?))) (fun p => do pure (p.1, ← liftO ((ρ' p.2).bind one?))) (fun p => .bind (hv p.2) fun v => .pure' rfl) ps
  unfold stepOp
  cases o.op <;> try (exact .fail)
  case move x => simp only [hρ]; exact nd_moveV _
  case assign x => simp only [hρ]; exact nd_moveV _
  case pick c a b =>
    simp only [hρ]
    refine .bind (by rw [← hρ]; exact hv c) fun c => .bind (.liftO (nd_boolOf c)) fun c => .ite' rfl (nd_moveV _) (nd_moveV _)
  case alloc T => exact .liftO (nd_allocV hφ C nm T)
  case box T x => exact .bind (hv x) fun v => nd_boxV hφ C nm T v
  case build T ps => exact .bind (hparts _) fun v => nd_buildV hφ C nm T v
  case buildSlice T n ps => exact .bind (hparts _) fun v => nd_buildSliceV hφ C nm T n v
  case load t a => exact .bind (hv a) fun v => nd_loadV hφ C t v
  case store t a x => exact .bind (hv a) fun a => .bind (hv x) fun x => .bind (nd_storeV hφ C nm t a x) fun u => .pure'' rfl
  case nilCheck x =>
    refine .bind (hv x) fun v => ?_
    cases v <;> first | exact .fail | exact .pure'' rfl
  case binOp op t x y _ => exact .bind (hv x) fun x => .bind (hv y) fun y => nd_binOpV hφ C op t x y
  case unOp op _ x => exact .bind (hv x) fun x => nd_unOpV hφ op x
  case convert s t x => exact .bind (hv x) fun x => nd_convertV hφ C s t x
  case makeFunc fn first caps =>
    cases fn with
    | func f =>
      refine .bind (.req _) fun _ => .bind (nd_list (Cap.map φ) _ _ (fun x => ?_) _) fun cs => .pure'' rfl
      refine .bind (hv x) fun v => ?_
      cases v with
      | c y => exact .pure'' rfl
      | ref b off => cases off <;> first | exact .fail | exact .pure'' rfl
      | _ => exact .fail
    | _ => exact .fail
  case makeSlice t l c => exact .bind (hv l) fun l => .bind (hv c) fun c => nd_makeSliceV hφ C nm t l c
  case slice t x lo hi mx =>
    refine .bind (.req _) fun _ => .bind (hv x) fun x => ?_
    refine .bind (hopt lo) fun lo => ?_
    refine .bind (hopt hi) fun hi => ?_
    exact .bind (hopt mx) fun mx => nd_sliceV hφ C t x lo hi mx
  case fieldAddr s x f => exact .bind (hv x) fun x => .bind (.liftO (nd_fieldAddrV C s f x)) fun v => nd_ret1 v
  case field s x f => exact .bind (hv x) fun x => nd_fieldV C s f x
  case indexAddr t x i => exact .bind (hv x) fun x => .bind (hv i) fun i => .bind (.liftO (nd_intOf i)) fun i => nd_indexAddrV hφ C t x i.2
  case index t x i => exact .bind (hv x) fun x => .bind (hv i) fun i => .bind (.liftO (nd_intOf i)) fun i => nd_indexV hφ C t x i.2
  case extract x i =>
    simp only [hρ]
    refine .bind (g := TV.map φ) (.liftO rfl) fun tv => ?_
    cases tv with
    | one => exact .fail
    | tup vs =>
      refine .bind (g := SV.map φ) (.liftO (by simp)) fun v => ?_
      cases v <;> first | exact .fail | exact .pure'' rfl
  case call c =>
    dsimp only
    cases c.callee with
    | value g =>
      dsimp only
      refine .bind (nd_list (SV.map φ) _ _ hv _) fun args => .bind (hv g) fun v => ?_
      cases v with
      | c y => cases y with
        | d t x => cases t <;> first | exact .fail | exact nd_callvV hφ C x _ _ args
        | own => exact .fail
      | clo f caps =>
        have := nd_callV hφ C nm f (args ++ capsSV caps)
        rw [List.map_append, ← nd_capsSV] at this
        exact this
      | _ => exact .fail
    | builtin b =>
      cases b <;> try (exact .fail)
      case len =>
        dsimp only
        match c.args.toList, c.argTypes.toList with
        | [x], [t] => exact .bind (hv x) fun x => nd_lenV hφ C t x
        | [], _ => exact .fail
        | _ :: _ :: _, _ => exact .fail
        | [_], [] => exact .fail
        | [_], _ :: _ :: _ => exact .fail
      case append =>
        dsimp only
        match c.args.toList, c.argTypes.toList with
        | [x, y], [t, u] => exact .bind (hv x) fun x => .bind (hv y) fun y => nd_appendV hφ C nm t u x y
        | [], _ => exact .fail
        | [_], _ => exact .fail
        | _ :: _ :: _ :: _, _ => exact .fail
        | [_, _], [] => exact .fail
        | [_, _], [_] => exact .fail
        | [_, _], _ :: _ :: _ :: _ => exact .fail
      case max =>
        dsimp only
        match c.args.toList with
        | [x, y] => exact .bind (hv x) fun x => .bind (.liftO (nd_intOf x)) fun a => .bind (hv y) fun y => .bind (.liftO (nd_intOf y)) fun b => .bind (.req _) fun _ => res_vI hφ _ _ _ (by rw [hφ.f2])
        | [] => exact .fail
        | [_] => exact .fail
        | _ :: _ :: _ :: _ => exact .fail
      case min =>
        dsimp only
        match c.args.toList with
        | [x, y] => exact .bind (hv x) fun x => .bind (.liftO (nd_intOf x)) fun a => .bind (hv y) fun y => .bind (.liftO (nd_intOf y)) fun b => .bind (.req _) fun _ => res_vI hφ _ _ _ (by rw [hφ.f2])
        | [] => exact .fail
        | [_] => exact .fail
        | _ :: _ :: _ :: _ => exact .fail
    | _ => exact .fail
end
end Go.Fw
/- The framework, part 18: one operation, as a whole. -/
namespace Go.Fw
open Alg
section
variable {C : Cx} {w0 : World} {S0 M0 : Nat → Prop} {w w' : World} {S S' : Nat → Prop} {h h' : Hp} {μ μ' : Mu} {V : Vt}

/-- The temporaries. -/
def TmpsRep (C : Cx) (w : World) (S : Nat → Prop) (h : Hp) (μ : Mu) (tmps : List (TV D)) (a : Act) : Prop :=
  a.tmps.size = tmps.length ∧ ∀ i tv, tmps[i]? = some tv → TVRep C w S h μ tv (a.tmps.getD i undef)
theorem TmpsRep.mono (x : Ext S μ h w S' μ' h' w') {tmps : List (TV D)} {a : Act} (ht : TmpsRep C w S h μ tmps a) : TmpsRep C w' S' h' μ' tmps a :=
  ⟨ht.1, fun i tv hi => (ht.2 i tv hi).mono x⟩
def setTV (tmps : List (TV D)) (dst : Option Nat) (v : TV D) : List (TV D) := match dst with
  | some d => tmps.set d v
  | none => tmps
theorem TmpsRep.put {tmps : List (TV D)} {a : Act} (ht : TmpsRep C w S h μ tmps a) {tv : TV D} {v : Value} (hv : TVRep C w S h μ tv v) (dst : Option Nat) : TmpsRep C w S h μ (setTV tmps dst tv) (a.put dst v) := by
  cases dst with
  | none => exact ht
  | some d =>
    refine ⟨by simp [setTV, Act.put, ht.1], fun i tv' hi => ?_⟩
    simp only [setTV, List.getElem?_set] at hi
    simp only [Act.put, Array.getD_eq_getD_getElem?, Array.getElem?_setIfInBounds]
    split at hi
    · rename_i e
      subst e
      split at hi
      · rename_i hd
        injection hi with hi
        subst hi
        rw [if_pos rfl, if_pos (by rw [ht.1]; exact hd)]
        exact hv
      · cases hi
    · rename_i e
      rw [if_neg e]
      have := ht.2 i tv' hi
      rwa [Array.getD_eq_getD_getElem?] at this
theorem rdOpd_rep {tmps : List (TV D)} {a : Act} (ht : TmpsRep C w S h μ tmps a) {x : Operand} {tv : TV D} (hr : rdOpd tmps x = some tv) : TVRep C w S h μ tv (a.eval x) := by
  cases x with
  | tmp t => exact ht.2 t tv hr
  | const v =>
    simp only [rdOpd, Option.map_eq_some_iff] at hr
    obtain ⟨sv, h1, rfl⟩ := hr
    exact .one _ _ (constV_rep h1)
  | func f =>
    simp only [rdOpd, Option.some.injEq] at hr
    subst hr
    exact .one _ _ (.clo f [] [] .nil)
  | global g => cases hr
theorem one?_rep {tv : TV D} {sv : SV D} {v : Value} (ht : TVRep C w S h μ tv v) (hr : one? tv = some sv) : SVRep C w S h μ sv v := by
  unfold one? at hr
  split at hr
  · cases hr
  · injection hr with hr
    subst hr
    cases ht with
    | one x v hx => exact hx
  · cases hr
theorem opd_rep {tmps : List (TV D)} {a : Act} (ht : TmpsRep C w S h μ tmps a) {x : Operand} {sv : SV D} (hr : (rdOpd tmps x).bind one? = some sv) : SVRep C w S h μ sv (a.eval x) := by
  rw [Option.bind_eq_some_iff] at hr
  obtain ⟨tv, h1, h2⟩ := hr
  exact one?_rep (rdOpd_rep ht h1) h2

/-! ### two operands -/
def isNilV : Value → Bool
  | .slice none _ _ => true
  | _ => false
theorem eqGuard_other (op : BinOp) (t : Nat) (x y : Operand) (a b : Value) (h1 : a ≠ .nilIface ∨ b ≠ .nilIface) (h2 : (∀ xs, a ≠ .agg xs) ∨ ∀ xs, b ≠ .agg xs) : (eqGuard op t x y a b).run C.P w = .ok () w := by
  unfold eqGuard
  cases op <;> simp <;> (split <;> first | rfl | (simp_all; done) | (rcases h2 with h2 | h2 <;> exact absurd rfl (h2 _)))
theorem cellsAs_flip : ∀ {ts : List Ty} {cs : List (Cell D)} {r : List D × Upd D}, ts.all Ty.scalar = true → Runs C V h (cellsAs true ts cs) r → Runs C V h (cellsAs false ts cs) r ∧ r.2 = []
  | [], [], r, _, hr => by simp only [cellsAs, Runs.pure'] at hr ⊢; exact ⟨hr, by rw [← hr]⟩
  | [], _ :: _, r, _, hr => ((Runs.fail _).1 hr).elim
  | _ :: _, [], r, _, hr => ((Runs.fail _).1 hr).elim
  | t :: ts, c :: cs, r, ha, hr => by
    simp only [List.all_cons, Bool.and_eq_true] at ha
    simp only [cellsAs, Runs.bind] at hr ⊢
    obtain ⟨⟨x, u⟩, h1, ⟨xs, us⟩, h2, hr⟩ := hr
    rw [Runs.pure] at hr
    subst hr
    obtain ⟨h3, h4⟩ := cellsAs_flip ha.2 h2
    dsimp only at h4
    subst h4
    cases c with
    | d t' y =>
      simp only [cellAs, cellData, Runs.bind, Runs.pure', Runs.req, exists_const, Runs.pure] at h1
      obtain ⟨⟨a, b, c⟩, h5, h6, h7⟩ := h1
      injection h5 with h5 h8
      injection h8 with h8 h9
      subst h5 h8 h9
      injection h7 with h7 h10
      subst h7 h10
      refine ⟨⟨(y, []), ?_, (xs, []), h3, by simp⟩, rfl⟩
      simp only [cellAs, cellData, Runs.bind, Runs.pure', Runs.req, exists_const, Runs.pure]
      exact ⟨(t', y, []), rfl, h6, rfl⟩
    | own n g =>
      exfalso
      simp only [cellAs, Runs.bind, Runs.req, exists_const] at h1
      obtain ⟨⟨a, b, c⟩, h5, h6, _⟩ := h1
      have ht : ∃ e, a = .sl e := by
        simp only [cellData, Runs.get] at h5
        split at h5
        · split at h5
          · split at h5
            · rw [Runs.pure'] at h5; injection h5 with h5; exact ⟨_, h5.symm⟩
            · rw [Runs.pure'] at h5; injection h5 with h5; exact ⟨_, h5.symm⟩
            · exact ((Runs.fail _).1 h5).elim
          · exact ((Runs.fail _).1 h5).elim
        · exact ((Runs.fail _).1 h5).elim
      obtain ⟨e, rfl⟩ := ht
      have ha1 := ha.1
      cases t <;> simp [Fw.fits, Ty.scalar] at h6 ha1
theorem binOp_sound (hC : C.ok) (H : RH C w0 S0 M0 S μ h w) {op : BinOp} {t : Nat} {x y : SV D} {vx vy : Value} (ox oy : Operand) {res : Res D} (hx : SVRep C w S h μ x vx) (hy : SVRep C w S h μ y vy)
    (hN : ∀ xs ys, V isNilF xs = some ys → mkBool ys = .bool (isNilV vx)) (hr : Runs C V h (binOpV C op t x y) res) :
    Lands C w0 S0 M0 S μ h w res ((do pure (.value (← (do eqGuard op t ox oy vx vy; binOp op t vx vy))) : Sem Next).run C.P w) := by
  have go : ∀ {sv v}, (eqGuard op t ox oy vx vy).run C.P w = .ok () w → (binOp op t vx vy).run C.P w = .ok v w → res = (.one sv, []) → SVRep C w S h μ sv v → Lands C w0 S0 M0 S μ h w res ((do pure (.value (← (do eqGuard op t ox oy vx vy; binOp op t vx vy))) : Sem Next).run C.P w) := by
    intro sv v h1 h2 h3 h4
    subst h3
    exact .val H (by rw [Sem.run_bind, h1, Result.andThen_ok]; exact h2) h4
  cases hx with
  | c cx tx vx hcx =>
    cases hy with
    | c cy ty vy hcy =>
      cases cx with
      | own => cases cy <;> exact ((Runs.fail _).1 hr).elim
      | d tx x =>
        cases cy with
        | own => cases tx <;> exact ((Runs.fail _).1 hr).elim
        | d ty' y =>
          cases tx with
          | int k =>
            cases ty' with
            | int k' =>
              obtain ⟨a, rfl, rfl⟩ := (SVRep.c _ _ _ hcx).intv
              obtain ⟨b, rfl, rfl⟩ := (SVRep.c _ _ _ hcy).intv
              obtain ⟨sv, v, h1, h2, h3⟩ := binOp_int hr
              exact go (eqGuard_other _ _ _ _ _ _ (.inl (by simp)) (.inl (by simp))) h2 h1 h3
            | _ => exact ((Runs.fail _).1 hr).elim
          | bool =>
            cases ty' with
            | bool =>
              obtain ⟨a, rfl, rfl⟩ := (SVRep.c _ _ _ hcx).boolv
              obtain ⟨b, rfl, rfl⟩ := (SVRep.c _ _ _ hcy).boolv
              obtain ⟨sv, v, h1, h2, h3⟩ := binOp_bool hr
              exact go (eqGuard_other _ _ _ _ _ _ (.inl (by simp)) (.inl (by simp))) h2 h1 h3
            | _ => exact ((Runs.fail _).1 hr).elim
          | str =>
            cases ty' with
            | str =>
              obtain ⟨a, rfl, rfl⟩ := (SVRep.c _ _ _ hcx).strv
              obtain ⟨b, rfl, rfl⟩ := (SVRep.c _ _ _ hcy).strv
              obtain ⟨sv, v, h1, h2, h3⟩ := binOp_str hr
              exact go (eqGuard_other _ _ _ _ _ _ (.inl (by simp)) (.inl (by simp))) h2 h1 h3
            | _ => exact ((Runs.fail _).1 hr).elim
          | _ => cases ty' <;> exact ((Runs.fail _).1 hr).elim
    | nils =>
      have hr' : Runs C V h (do
          req (match C.P.underlying t with | some (.slice _) => true | _ => false)
          let (u, y, _) ← cellData true cx
          req (match u with | .sl _ | .slc _ => true | _ => false)
          .ite (f2 .ieq (f1 .llen y) (ilit 0)) (.call isNilF [y] 1 fun bs => match op with
            | .eql => ret1 (vB (f2 .beq (mkBool bs) (lit (.bool true))))
            | .neq => ret1 (vB (f2 .bne (mkBool bs) (lit (.bool true))))
            | _ => .fail) (nilC op)) res := by
        cases cx with
        | own => exact hr
        | d tt x => cases tt <;> exact hr
      simp only [Runs.bind, Runs.req, exists_const] at hr'
      obtain ⟨hu, ⟨u, y, up⟩, hcd, hty, hc⟩ := hr'
      have hslice : ∃ e, C.P.underlying t = some (.slice e) := by
        revert hu
        cases C.P.underlying t with
        | none => simp
        | some d => cases d <;> simp
      obtain ⟨e, hu⟩ := hslice
      have hvx : ∃ A n c, vx = .slice A n c ∧ ∃ l, y = .rows l ∧ n = l.length ∧ (l ≠ [] → A.isSome = true) := by
        have hro : ∃ e, Runs C V h (rowsOf (.c cx)) (e, y) := by
          simp only [rowsOf, Runs.bind]
          cases u <;> first
            | (simp at hty; done)
            | exact ⟨_, _, hcd, (Runs.pure _ _).2 rfl⟩
        obtain ⟨e, hro⟩ := hro
        obtain ⟨l, A, c, h1, h2, _, h4⟩ := rowsOf_sound H (.c _ _ _ hcx) hro
        exact ⟨A, _, c, h2, l, h1, rfl, fun hl => by obtain ⟨_, _, b, o, _, rfl, _⟩ := h4 hl; rfl⟩
      obtain ⟨A, n, c, rfl, l, rfl, hnl, hA⟩ := hvx
      have heq : (Op.equal t (.slice A n c) (.slice none 0 0)).run C.P w = .ok (isNilV (.slice A n c)) w := by
        have e0 : Op.equal t (.slice A n c) (.slice none 0 0) = Op.equalIn (9999 + 1) t (.slice A n c) (.slice none 0 0) := rfl
        rw [e0]
        unfold Op.equalIn
        simp only [Sem.run_bind, run_underlying hu, Result.andThen_ok]
        cases A <;> rfl
      have e0 : (f2 .ieq (f1 .llen (.rows l)) (ilit 0) : D) = .bool (decide (l = [])) := by
        cases l <;> simp [f2, f1, F2.den, F1.den, ilit, lit, Lt.den, D.toInt, D.toRows]
        all_goals try omega
      rw [e0, Runs.ite] at hc
      by_cases hl0 : l = []
      case neg =>
        simp only [hl0, decide_false, D.toBool_bool, Bool.false_eq_true, if_false] at hc
        have hnn : isNilV (.slice A n c) = false := by
          have := hA hl0
          cases A with
          | none => simp at this
          | some a => rfl
        cases op with
        | eql =>
          simp only [nilC] at hc
          rw [Runs.ret1] at hc
          refine go (v := .bool (isNilV (.slice A n c))) (eqGuard_other _ _ _ _ _ _ (.inl (by simp)) (.inl (by simp))) ?_ hc.symm ?_
          · simp only [binOp, Sem.run_bind, heq, Result.andThen_ok, Sem.run_pure]
          · rw [hnn]; exact .ofBool _
        | neq =>
          simp only [nilC] at hc
          rw [Runs.ret1] at hc
          refine go (v := .bool (!isNilV (.slice A n c))) (eqGuard_other _ _ _ _ _ _ (.inl (by simp)) (.inl (by simp))) ?_ hc.symm ?_
          · simp only [binOp, Sem.run_bind, heq, Result.andThen_ok, Sem.run_pure]
          · rw [hnn]; exact .ofBool _
        | _ => exact ((Runs.fail _).1 hc).elim
      simp only [hl0, decide_true, D.toBool_bool, if_true] at hc
      obtain ⟨ys, hV, hl, hk⟩ := (Runs.call _ _ _ _ _).1 hc
      have hb := hN _ _ hV
      cases op with
      | eql =>
        rw [Runs.ret1] at hk
        refine go (v := .bool (isNilV (.slice A n c))) (eqGuard_other _ _ _ _ _ _ (.inl (by simp)) (.inl (by simp))) ?_ hk.symm ?_
        · simp only [binOp, Sem.run_bind, heq, Result.andThen_ok, Sem.run_pure]
        · rw [hb]; simp only [vB, f2, F2.den, lit, Lt.den, D.toBool_bool, beq_true]; exact .ofBool _
      | neq =>
        rw [Runs.ret1] at hk
        refine go (v := .bool (!isNilV (.slice A n c))) (eqGuard_other _ _ _ _ _ _ (.inl (by simp)) (.inl (by simp))) ?_ hk.symm ?_
        · simp only [binOp, Sem.run_bind, heq, Result.andThen_ok, Sem.run_pure]
        · rw [hb]; simp only [vB, f2, F2.den, lit, Lt.den, D.toBool_bool, beq_true]; exact .ofBool _
      | _ => exact ((Runs.fail _).1 hk).elim
    | _ => cases cx with
      | d tx x => cases tx <;> exact ((Runs.fail _).1 hr).elim
      | own => exact ((Runs.fail _).1 hr).elim
  | agg xs tsx cx hcx =>
    cases hy with
    | agg ys tsy cy hcy =>
      simp only [binOpV, Runs.bind, Runs.req, Runs.liftO, exists_const, Bool.and_eq_true, Bool.not_eq_true'] at hr
      obtain ⟨⟨⟨hq, hg⟩, hagg⟩, ts, ht, hsc, ⟨as, ua⟩, ha, ⟨bs, ub⟩, hb, hr⟩ := hr
      obtain ⟨ha, rfl⟩ := cellsAs_flip hsc ha
      obtain ⟨hb, rfl⟩ := cellsAs_flip hsc hb
      have ra := (cellsAs_rep H hcx ha).2 S (fun _ h => h) (fun p hp => by cases hp)
      have rb := (cellsAs_rep H hcy hb).2 S (fun _ h => h) (fun p hp => by cases hp)
      dsimp only at ra rb
      have heq := eqOk_sound (w := w) hC 8 t ts as bs cx cy hq ht ra rb 10000 (by omega)
      rw [hagg] at heq
      simp only [if_true] at heq
      have hD : ((mkRow as : D).beq (mkRow bs)) = beqRow as bs := by
        rw [mkRow_D, mkRow_D]; simp [D.beq, beqRows]
      have hbin : (Op.equal t (.agg cx.toArray) (.agg cy.toArray)).run C.P w = .ok (beqRow as bs) w := heq
      cases op with
      | eql =>
        rw [Runs.ret1] at hr
        refine go (v := .bool (beqRow as bs)) (run_eqGuard_agg (P := C.P) w _ t ox oy _ _ hg) ?_ hr.symm ?_
        · simp only [binOp, Sem.run_bind, hbin, Result.andThen_ok, Sem.run_pure]
        · simp only [vB, f2, F2.den, hD]; exact .ofBool _
      | neq =>
        rw [Runs.ret1] at hr
        refine go (v := .bool (!beqRow as bs)) (run_eqGuard_agg (P := C.P) w _ t ox oy _ _ hg) ?_ hr.symm ?_
        · simp only [binOp, Sem.run_bind, hbin, Result.andThen_ok, Sem.run_pure]
        · simp only [vB, f2, F2.den, hD]; exact .ofBool _
      | _ => exact ((Runs.fail _).1 hr).elim
    | _ => exact ((Runs.fail _).1 hr).elim
  | _ => exact ((Runs.fail _).1 hr).elim

/-! ### from an operation to the walk -/
/-- Whatever may be walked on with after the result, may be walked on with after the operation. -/
def OpOk (C : Cx) (w0 : World) (S0 M0 : Nat → Prop) (S : Nat → Prop) (μ : Mu) (h : Hp) (w : World) (a : Act) (o : Oper) (res : Res D) : Prop :=
  ∀ (K : Act → World → Prop) (Q : Exit → Act → World → Prop), (∀ v w' S' μ', RH C w0 S0 M0 S' μ' (Upd.ap res.2 h) w' → Ext S μ h w S' μ' (Upd.ap res.2 h) w' → TVRep C w' S' (Upd.ap res.2 h) μ' res.1 v → K (a.put o.dst v) w') → o.wp C.P a w K Q
theorem Lands.ok {a : Act} {o : Oper} {res : Res D} (H : Lands C w0 S0 M0 S μ h w res ((execOp a.eval o).run C.P w)) : OpOk C w0 S0 M0 S μ h w a o res := by
  intro K Q hK
  obtain ⟨v, w', hr, S', μ', H1, X1, R1⟩ := H
  unfold Oper.wp
  rcases hr with hr | ⟨hr, rfl⟩
  · rw [hr]
    exact hK v w' S' μ' H1 X1 R1
  · rw [hr]
    exact hK undef w' S' μ' H1 X1 R1
theorem parts_rep {tmps : List (TV D)} {a : Act} (ht : TmpsRep C w S h μ tmps a) : ∀ {ps : List (Nat × Operand)} {qs : List (Nat × SV D)}, Runs C V h (ps.mapM fun p => do pure (p.1, ← liftO ((rdOpd tmps p.2).bind one?))) qs → PartsRep C w S h μ qs (ps.map fun p => (p.1, a.eval p.2))
  | [], qs, hr => by
    have hr : Runs C V h (.pure []) qs := hr
    rw [Runs.pure'] at hr
    subst hr
    exact .nil
  | p :: ps, qs, hr => by
    rw [List.mapM_cons] at hr
    simp only [Runs.bind, Runs.liftO, Runs.pure] at hr
    obtain ⟨q, ⟨v, h1, rfl⟩, qs', h2, rfl⟩ := hr
    exact .cons _ _ _ _ _ (opd_rep ht h1) (parts_rep ht h2)
theorem capV_rep {v : SV D} {va : Value} {q : Cell D ⊕ Name} (hv : SVRep C w S h μ v va) (hq : Runs C V h (capV v) q) {qs : List (Cell D ⊕ Name)} {vs : List Value} (ih : CapsRep C w S h μ qs vs) : CapsRep C w S h μ (q :: qs) (va :: vs) := by
  unfold capV at hq
  split at hq
  · rw [Runs.pure'] at hq
    subst hq
    cases hv with
    | c x t v hc => exact .inl _ _ t _ _ hc ih
  · rw [Runs.pure'] at hq
    subst hq
    cases hv with
    | ref b off blk hb => exact .inr _ _ _ _ hb ih
  · exact ((Runs.fail _).1 hq).elim
theorem caps_rep {tmps : List (TV D)} {a : Act} (ht : TmpsRep C w S h μ tmps a) : ∀ {ps : List Operand} {qs : List (Cell D ⊕ Name)}, Runs C V h (ps.mapM fun x => do capV (← liftO ((rdOpd tmps x).bind one?))) qs → CapsRep C w S h μ qs (ps.map a.eval)
  | [], qs, hr => by
    have hr : Runs C V h (.pure []) qs := hr
    rw [Runs.pure'] at hr
    subst hr
    exact .nil
  | p :: ps, qs, hr => by
    rw [List.mapM_cons] at hr
    simp only [Runs.bind, Runs.liftO, Runs.pure] at hr
    obtain ⟨q, ⟨v, h1, hq⟩, qs', h2, rfl⟩ := hr
    exact capV_rep (opd_rep ht h1) hq (caps_rep ht h2)
theorem opt_rep {tmps : List (TV D)} {a : Act} (ht : TmpsRep C w S h μ tmps a) {x : Option Operand} {r : Option (SV D)} (hr : Runs C V h (optV (fun x => liftO ((rdOpd tmps x).bind one?)) x) r) : OptRep C w S h μ r (x.map a.eval) := by
  cases x with
  | none => simp only [optV, Runs.pure'] at hr; subst hr; trivial
  | some y =>
    simp only [optV, Runs.bind, Runs.liftO, Runs.pure] at hr
    obtain ⟨v, h1, rfl⟩ := hr
    exact opd_rep ht h1
theorem svs_at : ∀ {xs : List (SV D)} {vs : List Value}, SVsRep C w S h μ xs vs → ∀ {i : Nat} {y : SV D}, xs[i]? = some y → ∃ u, vs[i]? = some u ∧ SVRep C w S h μ y u
  | _, _, .nil, i, y, hi => by simp at hi
  | _, _, .cons x xs v vs hx hs, 0, y, hi => by simp at hi; subst hi; exact ⟨v, rfl, hx⟩
  | _, _, .cons x xs v vs hx hs, i + 1, y, hi => by
    simp only [List.getElem?_cons_succ] at hi ⊢
    exact svs_at hs hi
theorem move_sound (H : RH C w0 S0 M0 S μ h w) {tmps : List (TV D)} {a : Act} (ht : TmpsRep C w S h μ tmps a) {x : Operand} {res : Res D} (hr : Runs C V h (moveV (rdOpd tmps x)) res) :
    Lands C w0 S0 M0 S μ h w res ((pure (.value (a.eval x)) : Sem Next).run C.P w) := by
  unfold moveV at hr
  split at hr
  · exact ((Runs.fail _).1 hr).elim
  · exact ((Runs.fail _).1 hr).elim
  · rename_i tv _ h1
    rw [Runs.pure'] at hr
    subst hr
    exact ⟨a.eval x, w, .inl rfl, S, μ, H, .refl, rdOpd_rep ht h1⟩
theorem stepOp_sound (hC : C.ok) (hZ : C.zok) (hK : C.tok) (H : RH C w0 S0 M0 S μ h w) {tmps : List (TV D)} {a : Act} (ht : TmpsRep C w S h μ tmps a) {nm : Nat → Name} (hi : Inj nm) (hf : Fresh h nm 0) {o : Oper} {res : Res D}
    (hN : ∀ op t x y ty, o.op = .binOp op t x y ty → ∀ xs ys, V isNilF xs = some ys → mkBool ys = .bool (isNilV (a.eval x)))
    (hcall : ∀ c g, o.op = .call c → c.callee = .value g → OpOk C w0 S0 M0 S μ h w a o res)
    (hr : Runs C V h (stepOp C nm (rdOpd tmps) o) res) : OpOk C w0 S0 M0 S μ h w a o res := by
  obtain ⟨dst, op, type, pos, after, guard⟩ := o
  unfold stepOp at hr
  cases op <;> try (exact ((Runs.fail _).1 hr).elim)
  case move x =>
    have := move_sound H ht hr
    exact Lands.ok this
  case assign x =>
    have := move_sound H ht hr
    exact Lands.ok this
  case pick c x y =>
    simp only [Runs.bind, Runs.liftO, Runs.ite] at hr
    obtain ⟨v, h1, b, h2, hr⟩ := hr
    have hb := opd_rep ht h1
    rw [boolOf_some h2] at hb
    obtain ⟨b, rfl, hv⟩ := hb.boolv
    apply Lands.ok
    simp only [D.toBool_bool] at hr
    simp only [execOp, hv, asBool]
    cases b
    · simp only [Bool.false_eq_true, if_false] at hr
      have := move_sound H ht hr
      simpa using this
    · simp only [if_true] at hr
      have := move_sound H ht hr
      simpa using this
  case alloc T =>
    apply Lands.ok
    simp only [Runs.liftO] at hr
    exact alloc_sound hZ H hi hf hr
  case box T x =>
    simp only [Runs.bind, Runs.liftO] at hr
    obtain ⟨v, h1, hr⟩ := hr
    exact (box_sound hK H hi hf (opd_rep ht h1) hr).ok
  case build T ps =>
    simp only [Runs.bind] at hr
    obtain ⟨qs, h1, hr⟩ := hr
    apply Lands.ok
    have := build_sound hC hZ hK H hi hf (parts_rep ht h1) hr
    have e : (ps.map fun (i, x) => (i, a.eval x)) = (ps.toList.map fun p => (p.1, a.eval p.2)).toArray := by apply Array.toList_inj.1; simp
    simp only [execOp, e]
    exact this
  case buildSlice T n ps =>
    simp only [Runs.bind] at hr
    obtain ⟨qs, h1, hr⟩ := hr
    apply Lands.ok
    have := buildSlice_sound hC hZ H (hf 0 (Nat.le_refl _)) (parts_rep ht h1) hr
    have e : (ps.map fun (i, x) => (i, a.eval x)) = (ps.toList.map fun p => (p.1, a.eval p.2)).toArray := by apply Array.toList_inj.1; simp
    simp only [execOp, e]
    exact this
  case load t x =>
    simp only [Runs.bind, Runs.liftO] at hr
    obtain ⟨v, h1, hr⟩ := hr
    exact (load_sound hC H (opd_rep ht h1) hr).ok
  case store t x y =>
    simp only [Runs.bind, Runs.liftO, Runs.pure'] at hr
    obtain ⟨v, h1, u, h2, q, h3, rfl⟩ := hr
    exact (store_sound hC hK H (hf 0 (Nat.le_refl _)) (opd_rep ht h1) (opd_rep ht h2) h3).ok
  case nilCheck x =>
    simp only [Runs.bind, Runs.liftO] at hr
    obtain ⟨v, h1, hr⟩ := hr
    have hv := opd_rep ht h1
    have key : ∀ {sv}, SVRep C w S h μ sv (a.eval x) → (∃ A, a.eval x = .pointer (some A)) → res = (.one sv, []) → Lands C w0 S0 M0 S μ h w res ((execOp a.eval ⟨dst, .nilCheck x, type, pos, after, guard⟩).run C.P w) := by
      intro sv hsv ⟨A, hA⟩ hres
      subst hres
      refine .same H ?_ hsv
      simp only [execOp, hA]
      rfl
    apply Lands.ok
    cases v with
    | ref b off => rw [Runs.ret1] at hr; exact key hv (by generalize a.eval x = va at hv; cases hv; exact ⟨_, rfl⟩) hr.symm
    | refi b off n e i j => rw [Runs.ret1] at hr; exact key hv (by generalize a.eval x = va at hv; cases hv; exact ⟨_, rfl⟩) hr.symm
    | ro r e off => rw [Runs.ret1] at hr; exact key hv (by generalize a.eval x = va at hv; cases hv; exact ⟨_, rfl⟩) hr.symm
    | oel n g i off => rw [Runs.ret1] at hr; exact key hv (by generalize a.eval x = va at hv; cases hv with | oel _ _ _ _ _ _ _ _ _ _ _ _ hp => exact hp) hr.symm
    | _ => exact ((Runs.fail _).1 hr).elim
  case binOp op t x y ty =>
    simp only [Runs.bind, Runs.liftO] at hr
    obtain ⟨v, h1, u, h2, hr⟩ := hr
    exact (binOp_sound hC H x y (opd_rep ht h1) (opd_rep ht h2) (hN _ _ _ _ _ rfl) hr).ok
  case unOp op t x =>
    simp only [Runs.bind, Runs.liftO] at hr
    obtain ⟨v, h1, hr⟩ := hr
    exact (unOp_sound H (opd_rep ht h1) hr).ok
  case convert s t x =>
    simp only [Runs.bind, Runs.liftO] at hr
    obtain ⟨v, h1, hr⟩ := hr
    exact (convert_sound hC H (opd_rep ht h1) hr).ok
  case makeFunc fn first caps =>
    cases fn with
    | func f =>
      simp only [Runs.bind, Runs.req, exists_const, Runs.ret1] at hr
      obtain ⟨h0, cs, h1, rfl⟩ := hr
      have hcs := caps_rep ht h1
      have h0 : first = #[] := by simpa using h0
      subst h0
      refine (Lands.same H (v := .func (.func f) #[] ((caps.toList.map a.eval).toArray)) ?_ (.clo _ _ _ hcs)).ok
      simp [execOp, Instr.makeFunc]
      apply Array.toList_inj.1
      simp
    | _ => exact ((Runs.fail _).1 hr).elim
  case makeSlice t l c =>
    simp only [Runs.bind, Runs.liftO] at hr
    obtain ⟨v, h1, u, h2, hr⟩ := hr
    exact (makeSlice_sound hC hZ H (hf 0 (Nat.le_refl _)) (opd_rep ht h1) (opd_rep ht h2) hr).ok
  case slice t x lo hi' mx =>
    simp only [Runs.bind, Runs.liftO, Runs.req, exists_const] at hr
    obtain ⟨hu, v, h1, lo', h2, hi'', h3, mx', h4, hr⟩ := hr
    have hlo := opt_rep ht h2
    have hhi := opt_rep ht h3
    have hmx := opt_rep ht h4
    apply Lands.ok
    simp only [execOp]
    cases hu' : C.P.underlying t with
    | none => unfold sliceV at hr; rw [hu'] at hr; cases mx' <;> exact ((Runs.fail _).1 hr).elim
    | some d =>
      cases mx' with
      | none =>
        have hm : mx.map a.eval = none := by
          generalize mx.map a.eval = m at hmx
          cases m with
          | none => rfl
          | some v => exact hmx.elim
        rw [hm]
        cases d with
        | string => exact sliceStr_sound H (opd_rep ht h1) hlo hhi hu' hr
        | slice e =>
          rw [hu'] at hu
          obtain ⟨es, he⟩ := Option.isSome_iff_exists.1 hu
          exact sliceSl_sound hC H (opd_rep ht h1) hlo hhi hu' he hr
        | _ => unfold sliceV at hr; rw [hu'] at hr; exact ((Runs.fail _).1 hr).elim
      | some m =>
        obtain ⟨vm, hm, hmr⟩ : ∃ vm, mx.map a.eval = some vm ∧ SVRep C w S h μ m vm := by
          generalize mx.map a.eval = m' at hmx
          cases m' with
          | none => exact hmx.elim
          | some v => exact ⟨v, rfl, hmx⟩
        rw [hm]
        cases d with
        | slice e =>
          rw [hu'] at hu
          obtain ⟨es, he⟩ := Option.isSome_iff_exists.1 hu
          exact slice3_sound hC H (opd_rep ht h1) hlo hhi hmr hu' he hr
        | _ => unfold sliceV at hr; rw [hu'] at hr; exact ((Runs.fail _).1 hr).elim
  case fieldAddr s x f =>
    simp only [Runs.bind, Runs.liftO, Runs.ret1] at hr
    obtain ⟨v, h1, u, h2, rfl⟩ := hr
    exact (fieldAddr_sound H (opd_rep ht h1) h2).ok
  case field s x f =>
    simp only [Runs.bind, Runs.liftO] at hr
    obtain ⟨v, h1, hr⟩ := hr
    exact (field_sound hC H (opd_rep ht h1) hr).ok
  case indexAddr t x i =>
    simp only [Runs.bind, Runs.liftO] at hr
    obtain ⟨v, h1, u, h2, ⟨k, n⟩, h3, hr⟩ := hr
    have hi := opd_rep ht h2
    rw [intOf_some h3] at hi
    obtain ⟨n, rfl, hv⟩ := hi.intv
    apply Lands.ok
    have := indexAddr_sound (k := k) hC H (opd_rep ht h1) rfl hr
    rw [← hv] at this
    exact this
  case index t x i =>
    simp only [Runs.bind, Runs.liftO] at hr
    obtain ⟨v, h1, u, h2, ⟨k, n⟩, h3, hr⟩ := hr
    have hi := opd_rep ht h2
    rw [intOf_some h3] at hi
    obtain ⟨n, rfl, hv⟩ := hi.intv
    apply Lands.ok
    have := index_sound (k := k) hC H (opd_rep ht h1) rfl hr
    rw [← hv] at this
    exact this
  case extract x i =>
    simp only [Runs.bind, Runs.liftO] at hr
    obtain ⟨tv, h1, hr⟩ := hr
    have htv := rdOpd_rep ht h1
    cases tv with
    | one => exact ((Runs.fail _).1 hr).elim
    | tup vs =>
      simp only [Runs.bind, Runs.liftO] at hr
      obtain ⟨y, h2, hr⟩ := hr
      apply Lands.ok
      simp only [execOp]
      generalize a.eval x = va at htv
      cases htv with
      | tup _ us hs =>
        obtain ⟨u, hu, hy⟩ := svs_at hs h2
        have hres : res = (.one y, []) := by
          cases y <;> first
            | exact ((Runs.fail _).1 hr).elim
            | (rw [Runs.ret1] at hr; exact hr.symm)
        subst hres
        refine .same H (v := u) ?_ hy
        simp [Instr.extract, hu]
  case call c =>
    cases hcc : c.callee with
    | value g => exact hcall c g rfl hcc
    | invoke => dsimp only at hr; rw [hcc] at hr; exact ((Runs.fail _).1 hr).elim
    | builtin b =>
      dsimp only at hr
      rw [hcc] at hr
      obtain ⟨consts, hrun⟩ : ∃ consts, (execOp a.eval ⟨dst, .call c, type, pos, after, guard⟩).run C.P w = (builtin b c.argTypes type consts (c.args.map a.eval)).run C.P w := by
        refine ⟨c.args.map fun | .const _ => true | _ => false, ?_⟩
        simp only [execOp, resolve, hcc, Sem.run_bind, Sem.run_pure, Result.andThen_ok, invoke]
        rfl
      apply Lands.ok
      cases b <;> try (exact ((Runs.fail _).1 hr).elim)
      case len =>
        dsimp only at hr
        split at hr
        · rename_i x t hx ht'
          simp only [Runs.bind, Runs.liftO] at hr
          obtain ⟨v, h1, hr⟩ := hr
          have e1 : c.args.map a.eval = #[a.eval x] := by apply Array.toList_inj.1; simp [hx]
          have e2 : c.argTypes = #[t] := by apply Array.toList_inj.1; simp [ht']
          rw [hrun, e1, e2]
          exact len_sound H (opd_rep ht h1) hr
        · exact ((Runs.fail _).1 hr).elim
      case append =>
        dsimp only at hr
        split at hr
        · rename_i x y t u hx ht'
          simp only [Runs.bind, Runs.liftO] at hr
          obtain ⟨v, h1, v', h2, hr⟩ := hr
          have e1 : c.args.map a.eval = #[a.eval x, a.eval y] := by apply Array.toList_inj.1; simp [hx]
          have e2 : c.argTypes = #[t, u] := by apply Array.toList_inj.1; simp [ht']
          rw [hrun, e1, e2]
          exact append_sound hC hZ H (hf 0 (Nat.le_refl _)) (opd_rep ht h1) (opd_rep ht h2) hr
        · exact ((Runs.fail _).1 hr).elim
      case max =>
        dsimp only at hr
        split at hr
        · rename_i x y hx
          simp only [Runs.bind, Runs.liftO, Runs.req, exists_const, Runs.ret1] at hr
          obtain ⟨v, h1, ⟨k, p⟩, h2, v', h3, ⟨k', q⟩, h4, h5, rfl⟩ := hr
          have h5 := eq_of_beq h5
          dsimp only at h5
          subst h5
          have r1 := opd_rep ht h1
          have r2 := opd_rep ht h3
          rw [intOf_some h2] at r1
          rw [intOf_some h4] at r2
          obtain ⟨p, rfl, hp⟩ := r1.intv
          obtain ⟨q, rfl, hq⟩ := r2.intv
          have e1 : c.args.map a.eval = #[.int k p, .int k q] := by apply Array.toList_inj.1; simp [hx, hp, hq]
          rw [hrun, e1]
          refine .same H (v := .int k (if q > p then q else p)) ?_ (.ofInt _ _)
          rfl
        · exact ((Runs.fail _).1 hr).elim
      case min =>
        dsimp only at hr
        split at hr
        · rename_i x y hx
          simp only [Runs.bind, Runs.liftO, Runs.req, exists_const, Runs.ret1] at hr
          obtain ⟨v, h1, ⟨k, p⟩, h2, v', h3, ⟨k', q⟩, h4, h5, rfl⟩ := hr
          have h5 := eq_of_beq h5
          dsimp only at h5
          subst h5
          have r1 := opd_rep ht h1
          have r2 := opd_rep ht h3
          rw [intOf_some h2] at r1
          rw [intOf_some h4] at r2
          obtain ⟨p, rfl, hp⟩ := r1.intv
          obtain ⟨q, rfl, hq⟩ := r2.intv
          have e1 : c.args.map a.eval = #[.int k p, .int k q] := by apply Array.toList_inj.1; simp [hx, hp, hq]
          rw [hrun, e1]
          refine .same H (v := .int k (if q < p then q else p)) ?_ (.ofInt _ _)
          rfl
        · exact ((Runs.fail _).1 hr).elim
end
end Go.Fw
/- The framework, part 19: expressions, trees, and the walk over a function's code that makes a tree. Definitions alone. -/
namespace Go.Fw
open Alg

inductive SExp where
  | var (i : Nat)
  | lt (l : Lt)
  | e1 (o : F1) (a : SExp)
  | e2 (o : F2) (a b : SExp)
  | e3 (o : F3) (a b c : SExp)
  deriving DecidableEq, Inhabited

def foldLit : D → Option Lt
  | .int n => some (.int n)
  | .bool b => some (.bool b)
  | .str s => some (.str s)
  | _ => none
/-- How many cells a row has, if it is made in sight. -/
def rowLen : SExp → Option Nat
  | .e1 .one _ => some 1
  | .e2 .addc r _ => (rowLen r).map (· + 1)
  | _ => none
/-- A cell of a row made in sight. -/
def cellOf : SExp → Nat → Option SExp
  | .e1 .one x, j => if j == 0 then some x else none
  | .e2 .addc r b, j => match rowLen r with
    | some n => if j == n then some b else if j < n then cellOf r j else none
    | none => none
  | _, _ => none
def s1 (o : F1) (a : SExp) : SExp :=
  match a with
  | .lt l => match foldLit (o.den l.den) with
    | some l => .lt l
    | none => .e1 o a
  | a => match o with
    | .cell j => (cellOf a j).getD (.e1 o a)
    | o => .e1 o a
def s2 (o : F2) (a b : SExp) : SExp :=
  match a, b with
  | .lt l, .lt l' => match foldLit (o.den l.den l'.den) with
    | some l => .lt l
    | none => .e2 o a b
  | a, b => .e2 o a b
instance : Alg SExp := ⟨.lt, s1, s2, .e3⟩
def SExp.eval (ρ : List D) : SExp → D
  | .var i => ρ.getD i default
  | .lt l => l.den
  | .e1 o a => o.den (a.eval ρ)
  | .e2 o a b => o.den (a.eval ρ) (b.eval ρ)
  | .e3 o a b c => o.den (a.eval ρ) (b.eval ρ) (c.eval ρ)
def SExp.under (m : Nat) : SExp → Bool
  | .var i => i < m
  | .lt _ => true
  | .e1 _ a => a.under m
  | .e2 _ a b => a.under m && b.under m
  | .e3 _ a b c => a.under m && b.under m && c.under m
/-- Variables from m on are put for. -/
def SExp.subst (m : Nat) (as : List SExp) : SExp → SExp
  | .var i => if i < m then .var i else as.getD (i - m) (.lt (.int 0))
  | .lt l => .lt l
  | .e1 o a => .e1 o (a.subst m as)
  | .e2 o a b => .e2 o (a.subst m as) (b.subst m as)
  | .e3 o a b c => .e3 o (a.subst m as) (b.subst m as) (c.subst m as)

inductive Tree where
  | ret (es : List SExp)
  | ite (c : SExp) (a b : Tree)
  | guard (c : SExp) (k : Tree)
  | call (f : Nat) (args : List SExp) (n : Nat) (k : Tree)
  | callv (s : Sig) (f : SExp) (args : List SExp) (n : Nat) (k : Tree)
  | join (n : Nat) (body rest : Tree)
  | jump (j : Nat) (args : List SExp)
  | any (k : Tree)
  deriving DecidableEq, Inhabited

/-! ### the state -/
abbrev HL := List (Name × Obj SExp)
def hget (h : HL) (n : Name) : Option (Obj SExp) := (h.find? fun p => p.1 == n).map (·.2)
def hput (h : HL) (n : Name) (o : Obj SExp) : HL := if h.any (fun p => p.1 == n) then h.map (fun p => if p.1 == n then (n, o) else p) else h ++ [(n, o)]
def hputs (h : HL) (u : Upd SExp) : HL := u.foldl (fun h p => hput h p.1 p.2) h
structure SS where
  tmps : List (TV SExp)
  heap : HL
  stamp : Nat
  m : Nat
  deriving Inhabited
/-- What a loop's or a join's hint says. -/
inductive Pos where
  | live (t : Nat)
  | keep (t : Nat)
  | ownify (t e : Nat)
  | nilgen (t e : Nat)
  | obj (j : Nat)
  | dropn (j : Nat)
  | kill (t : Nat)
  deriving DecidableEq, Inhabited, Repr
inductive Err where
  | need (key : Nat) (p : Pos)
  | bad (fn region op why : Nat)
  deriving Inhabited, Repr
abbrev Out := Except Err Tree
def vars (m n : Nat) : List SExp := (List.range n).map fun i => .var (m + i)
def Cell.all {X : Type} (p : X → Bool) : Cell X → Bool
  | .d _ x => p x
  | .own _ _ => true
def SV.all {X : Type} (p : X → Bool) : SV X → Bool
  | .c x => x.all p
  | .agg xs => xs.all (·.all p)
  | .refi _ _ _ _ i _ => p i
  | .ro r _ _ => p r
  | .oel _ _ i _ => p i
  | .clo _ caps => caps.all fun | .inl y => y.all p | .inr _ => true
  | _ => true
def TV.all {X : Type} (p : X → Bool) : TV X → Bool
  | .one v => v.all p
  | .tup vs => vs.all (·.all p)
def Obj.all {X : Type} (p : X → Bool) : Obj X → Bool
  | .box _ cs => cs.all (·.all p)
  | .tok _ x _ _ => p x
  | .bld s => p s
def SS.under (σ : SS) (m : Nat) : Bool := σ.tmps.all (·.all (·.under m)) && σ.heap.all (·.2.all (·.under m))

/-! ### effects into trees -/
def symEff {A : Type} (any : Bool) (bad : Err) (h : HL) : Eff SExp A → Nat → List Name → (A → Nat → List Name → Out) → Out
  | .pure a, m, l, k => k a m l
  | .fail, _, _, _ => .error bad
  | .guard c e, m, l, k => match c with
    | .lt (.bool true) => symEff any bad h e m l k
    | c => do pure (.guard c (← symEff any bad h e m l k))
  | .ite c a b, m, l, k => match c with
    | .lt (.bool true) => symEff any bad h a m l k
    | .lt (.bool false) => symEff any bad h b m l k
    | c => do pure (.ite c (← symEff any bad h a m l k) (← symEff any bad h b m l k))
  | .get n e, m, l, k => symEff any bad h (e (hget h n)) m (n :: l) k
  | .call f xs n e, m, l, k =>
    if f == isNilF then
      (if any && n == 1 then do
        let t ← symEff any bad h (e (vars m n)) (m + n) l k
        pure (.any t)
      else .error bad)
    else do
      let t ← symEff any bad h (e (vars m n)) (m + n) l k
      pure (.call f xs n t)
  | .callv s x xs n e, m, l, k => do pure (.callv s x xs n (← symEff any bad h (e (vars m n)) (m + n) l k))

/-! ### a region -/
/-- What an operation wrote and read. -/
structure Rec where
  wrote : List Name
  read : List Name
def dstOf (ops : List Oper) (g : Nat) : Option Nat := (ops[g]?).bind (·.dst)
def setTmp (tmps : List (TV SExp)) (dst : Option Nat) (v : TV SExp) : List (TV SExp) := match dst with
  | some d => tmps.set d v
  | none => tmps
def deadOf (tmps : List (TV SExp)) (o : Oper) : Option Nat := o.op.operands.toList.findSome? fun
  | .tmp t => match tmps[t]? with
    | some (.one .dead) => some t
    | _ => none
  | _ => none
def skipTV : TV SExp := .tup []
def symOps (C : Cx) (fn rid : Nat) (draw : Bool) (dead : Nat → Err) (all : List Oper) : Nat → List Oper → SS → List Rec → (SS → List Rec → Out) → Out
  | _, [], σ, rs, k => k { σ with stamp := σ.stamp + 1 } rs.reverse
  | i, o :: os, σ, rs, k =>
    let skip (σ : SS) : Out := symOps C fn rid draw dead all (i + 1) os { σ with tmps := setTmp σ.tmps o.dst skipTV } (⟨[], []⟩ :: rs) k
    let run (σ : SS) : Out :=
      match deadOf σ.tmps o with
      | some t => .error (dead t)
      | none =>
        symEff (!draw) (.bad fn rid i 0) σ.heap (stepOp C (fun j => (σ.stamp, i, j)) (rdOpd σ.tmps) o) σ.m [] fun (tv, u) m l =>
          if (m == σ.m || σ.under σ.m) && u.all (fun p => (hget σ.heap p.1).isSome || (p.1.1 == σ.stamp && p.1.2.1 == i)) then
            symOps C fn rid draw dead all (i + 1) os { σ with tmps := setTmp σ.tmps o.dst tv, heap := hputs σ.heap u, m := m } (⟨List.map (fun p : Name × Obj SExp => p.1) u, l⟩ :: rs) k
          else .error (.bad fn rid i 1)
    match o.guard with
    | none => run σ
    | some (g, b) =>
      match (dstOf all g).bind (σ.tmps[·]?) with
      | some (.tup []) => skip σ
      | some (.one (.c (.d .bool c))) => match c with
        | .lt (.bool b') => if b == b' then run σ else skip σ
        | c => do
          let st (b : Bool) : SS := { σ with tmps := setTmp σ.tmps (dstOf all g) (.one (.c (.d .bool (.lt (.bool b))))) }
          let x ← run (st b)
          let y ← skip (st !b)
          pure (if b then .ite c x y else .ite c y x)
      | _ => .error (.bad fn rid i 2)
/-- What must come before an operation, as bits. -/
def preds (ops : List Oper) : List Nat := ops.foldl (fun acc o => acc ++ [o.after.toList.foldl (fun s e => if Region.binds .any e then s ||| (1 <<< e.on) ||| acc.getD e.on 0 else s) 0]) []
def disj (a b : List Name) : Bool := a.all fun n => !b.contains n
def Rec.free (a b : Rec) : Bool := disj a.wrote b.wrote && disj a.wrote b.read && disj b.wrote a.read
def drawOk (ops : Array Oper) (rs : List Rec) : Bool :=
  let ps := preds ops.toList
  ((ops.toList.zip rs).zipIdx).all fun ((y, ry), j) =>
    y.after.toList.all (fun e => !Region.binds .any e || decide (e.on < j)) &&
    ((((ops.toList.zip rs).take j).zipIdx).all fun ((x, rx), i) => ((ps.getD j 0).testBit i) || (x.apart ops y && rx.free ry))

/-! ### code -/
inductive SItem where
  | code (c : Code)
  | inBlock (id : Nat)
  | inLoop (c : Code) (j : Nat)
  | join (j : Nat)
  deriving Inhabited
def exitTo' (id : Nat) : List SItem → Option (List SItem)
  | .inBlock id' :: k => if id' == id then some k else exitTo' id k
  | _ :: k => exitTo' id k
  | [] => none
def dsts : Code → List Nat
  | .region _ ops _ => ops.toList.filterMap (·.dst)
  | .seq a b => dsts a ++ dsts b
  | .cond _ a b => dsts a ++ dsts b
  | .block _ a => dsts a
  | .loop a => dsts a
  | .scope a => dsts a
  | _ => []
/-- The first region's number: by it a hint is found. -/
def keyOf : Code → Option Nat
  | .region id _ _ => some id
  | .seq a b => (keyOf a).or (keyOf b)
  | .cond _ a b => (keyOf a).or (keyOf b)
  | .block _ a => keyOf a
  | .loop a => keyOf a
  | .scope a => keyOf a
  | _ => none
def keyOfK : List SItem → Option Nat
  | .code c :: k => (keyOf c).or (keyOfK k)
  | .inBlock _ :: k => keyOfK k
  | _ => none

/-- A join's or a loop's pattern: the state it stands for, with variables from 'base' on. -/
structure JRec where
  key : Nat
  entry : SS
  pat : SS
  base : Nat
  n : Nat

/-! #### matching -/
abbrev Ren := List (Name × Name × Nat)
def Ren.get (r : Ren) (n : Name) : Option (Name × Nat) := (r.find? fun p => p.1 == n).map (·.2)
structure MS where
  ren : Ren
  holes : List (Nat × SExp)
def hole (base : Nat) (x y : SExp) (s : MS) : Option MS := match x with
  | .var v => if v < base then (if x == y then some s else none) else some { s with holes := if s.holes.any (·.1 == v) then s.holes else (v, y) :: s.holes }
  | x => if x == y then some s else none
def bindN (n n' : Name) (d : Nat) (s : MS) : MS := match s.ren.get n with
  | some _ => s
  | none => { s with ren := s.ren ++ [(n, n', d)] }
def mCell (base : Nat) : Cell SExp → Cell SExp → MS → Option MS
  | .d t x, .d t' y, s => if t == t' then hole base x y s else none
  | .own n g, .own n' g', s => some (bindN n n' (g' - g) s)
  | _, _, _ => none
def mList {A : Type} (f : A → A → MS → Option MS) : List A → List A → MS → Option MS
  | [], [], s => some s
  | a :: as, b :: bs, s => (f a b s).bind (mList f as bs)
  | _, _, _ => none
def mSV (base : Nat) : SV SExp → SV SExp → MS → Option MS
  | .dead, _, s => some s
  | .c a, .c b, s => mCell base a b s
  | .agg as, .agg bs, s => mList (mCell base) as bs s
  | .ref b _, .ref b' _, s => some (bindN b b' 0 s)
  | .refi b _ _ _ i _, .refi b' _ _ _ i' _, s => hole base i i' (bindN b b' 0 s)
  | .ro r _ _, .ro r' _ _, s => hole base r r' s
  | .oel n g i _, .oel n' g' i' _, s => hole base i i' (bindN n n' (g' - g) s)
  | .nils, .nils, s => some s
  | .nilp, .nilp, s => some s
  | .clo _ as, .clo _ bs, s => mList (fun
      | .inl a, .inl b, s => mCell base a b s
      | .inr n, .inr n', s => some (bindN n n' 0 s)
      | _, _, _ => none) as bs s
  | _, _, _ => none
def mTV (base : Nat) : TV SExp → TV SExp → MS → Option MS
  | .one a, .one b, s => mSV base a b s
  | .one .dead, .tup _, s => some s
  | .tup as, .tup bs, s => mList (mSV base) as bs s
  | _, _, _ => none
def mObj (base : Nat) : Obj SExp → Obj SExp → MS → Option MS
  | .box _ cs, .box _ cs', s => mList (mCell base) cs cs' s
  | .tok _ x _ _, .tok _ y _ _, s => hole base x y s
  | .bld x, .bld y, s => hole base x y s
  | _, _, _ => none
/-- Temporaries first; then, name for name, what they lead to. -/
def mTmps (base key : Nat) (h' : HL) : Nat → List (TV SExp) → List (TV SExp) → MS → Except Err MS
  | i, a :: as, b :: bs, s => match mTV base a b s with
    | some s => mTmps base key h' (i + 1) as bs s
    | none => .error (.need key (match a, b with
      | .one .nils, .one (.c (.d (.sl e) _)) => .nilgen i e
      | .one .nils, .one (.c (.own n _)) => match hget h' n with
        | some (.tok e _ _ _) => .ownify i e
        | _ => .live i
      | .one (.c (.d (.sl _) _)), .one .nils => .nilgen i 0
      | _, _ => .live i))
  | _, _, _, s => .ok s
def mHeap (base key : Nat) (h h' : HL) : Nat → Nat → MS → Except Err MS
  | 0, _, s => .ok s
  | k + 1, i, s => match s.ren[i]? with
    | some (n, n', _) => match hget h n, hget h' n' with
      | some o, some o' => match mObj base o o' s with
        | some s => mHeap base key h h' k (i + 1) s
        | none => .error (.need key (.obj ((h.findIdx? fun p => p.1 == n).getD 999)))
      | _, _ => .error (.need key (.dropn ((h.findIdx? fun p => p.1 == n).getD 999)))
    | none => match h.find? fun p => !s.ren.any (·.1 == p.1) with
      | some (n, _) => mHeap base key h h' k i (bindN n n 0 s)
      | none => .ok s
def tokGen : Option (Obj SExp) → Nat
  | some (.tok _ _ g _) => g
  | _ => 0
def Cell.inst (r : Ren) (f : SExp → SExp) : Cell SExp → Option (Cell SExp)
  | .d t x => some (.d t (f x))
  | .own n g => (r.get n).map fun (n', k) => .own n' (g + k)
def Cap.inst (r : Ren) (f : SExp → SExp) : Cell SExp ⊕ Name → Option (Cell SExp ⊕ Name)
  | .inl y => (y.inst r f).map .inl
  | .inr b => (r.get b).map fun p => .inr p.1
def SV.inst (r : Ren) (f : SExp → SExp) : SV SExp → Option (SV SExp)
  | .c y => (y.inst r f).map .c
  | .agg cs => (cs.mapM (Cell.inst r f)).map .agg
  | .ref b o => (r.get b).map fun (b', _) => .ref b' o
  | .refi b o n e i j => (r.get b).map fun (b', _) => .refi b' o n e (f i) j
  | .ro x e o => some (.ro (f x) e o)
  | .oel n g i o => (r.get n).map fun (n', d) => .oel n' (g + d) (f i) o
  | .nils => some .nils
  | .nilp => some .nilp
  | .clo g caps => (caps.mapM (Cap.inst r f)).map (.clo g)
  | .dead => some .dead
def Obj.inst (r : Ren) (f : SExp → SExp) (d : Nat) : Obj SExp → Option (Obj SExp)
  | .box t cs => (cs.mapM (Cell.inst r f)).map (.box t)
  | .tok e x g st => some (.tok e (f x) (g + d) st)
  | .bld s => some (.bld (f s))
def TV.inst (r : Ren) (f : SExp → SExp) : TV SExp → Option (TV SExp)
  | .one v => (v.inst r f).map .one
  | .tup vs => (vs.mapM (SV.inst r f)).map .tup
def nodupR : Ren → Bool
  | [] => true
  | p :: r => r.all (fun q => p.1 != q.1 && p.2.1 != q.2.1) && nodupR r
/-- The check that a state is the pattern's, for these arguments and these names. -/
def instOK (r : Ren) (f : SExp → SExp) (pat σ : SS) : Bool :=
  nodupR r && pat.tmps.length == σ.tmps.length &&
  ((pat.tmps.zip σ.tmps).all fun (a, b) => a == .one .dead || a.inst r f == some b) &&
  pat.heap.all (fun p => r.any fun q => q.1 == p.1) &&
  r.all fun (n, n', d) => match hget pat.heap n, hget σ.heap n' with
    | some o, some o' => o.inst r f d == some o'
    | _, _ => false
def fixRen (h h' : HL) (r : Ren) : Ren := r.map fun (n, n', _) => (n, n', tokGen (hget h' n') - tokGen (hget h n))
def symJump (bn : List Name) (fn j : Nat) (J : JRec) (σ : SS) : Out := do
  let s ← mTmps J.base J.key σ.heap 0 J.pat.tmps σ.tmps ⟨[], []⟩
  let s ← mHeap J.base J.key J.pat.heap σ.heap (J.pat.heap.length + J.pat.heap.length + s.ren.length) 0 s
  let args := (List.range J.n).map fun i => ((s.holes.find? (·.1 == J.base + i)).map (·.2)).getD (.lt .nil)
  let r := fixRen J.pat.heap σ.heap s.ren
  if instOK r (·.subst J.base args) J.pat σ && (decide (J.base ≤ σ.m) && J.pat.m == J.base + J.n) && bn.all (fun n => (r.get n).map (·.1) == some n) then pure (.jump j args)
  else match (J.pat.tmps.zip σ.tmps).findIdx? fun (a, b) => !(a == .one .dead || a.inst r (·.subst J.base args) == some b) with
    | some i => .error (.need J.key (.kill i))
    | none => .error (.bad fn J.key j 3)

/-! #### patterns -/
def gCell : Cell SExp → Nat → Cell SExp × Nat
  | .d t _, m => (.d t (.var m), m + 1)
  | c, m => (c, m)
def gList {A : Type} (f : A → Nat → A × Nat) : List A → Nat → List A × Nat
  | [], m => ([], m)
  | a :: as, m => let (a, m) := f a m; let (as, m) := gList f as m; (a :: as, m)
def gSV : SV SExp → Nat → SV SExp × Nat
  | .c c, m => let (c, m) := gCell c m; (.c c, m)
  | .agg cs, m => let (cs, m) := gList gCell cs m; (.agg cs, m)
  | .refi b o n e _ j, m => (.refi b o n e (.var m) j, m + 1)
  | .ro _ e o, m => (.ro (.var m) e o, m + 1)
  | .oel n g _ o, m => (.oel n g (.var m) o, m + 1)
  | .clo f caps, m => let (caps, m) := gList (fun
      | .inl c, m => let (c, m) := gCell c m; (.inl c, m)
      | .inr b, m => (.inr b, m)) caps m; (.clo f caps, m)
  | v, m => (v, m)
def gTV : TV SExp → Nat → TV SExp × Nat
  | .one v, m => let (v, m) := gSV v m; (.one v, m)
  | .tup vs, m => let (vs, m) := gList gSV vs m; (.tup vs, m)
def gObj : Obj SExp → Nat → Obj SExp × Nat
  | .box t cs, m => let (cs, m) := gList gCell cs m; (.box t cs, m)
  | .tok e _ g st, m => (.tok e (.var m) g st, m + 1)
  | .bld _, m => (.bld (.var m), m + 1)
/-- A nil slice that is taken for a row of the call's own, or for data. -/
def ghost (C : Cx) (ps : List Pos) (σ : SS) : SS :=
  let σ' := ps.foldl (fun (σ : SS) p => match p with
    | .ownify t e => match σ.tmps[t]? with
      | some (.one .nils) => if (hget σ.heap (σ.stamp, 0, t)).isNone && (C.tab e).isSome then { σ with tmps := σ.tmps.set t (.one (.c (.own (σ.stamp, 0, t) 0))), heap := hput σ.heap (σ.stamp, 0, t) (.tok e (.lt .nil) 0 .live) } else σ
      | _ => σ
    | .nilgen t e => match σ.tmps[t]? with
      | some (.one .nils) => { σ with tmps := σ.tmps.set t (.one (.c (.d (.sl e) (.lt .nil)))) }
      | _ => σ
    | _ => σ) σ
  { σ' with stamp := σ'.stamp + 1 }
def mkPat (W : List Nat) (ps : List Pos) (σ : SS) : SS × Nat :=
  let rec tm : Nat → List (TV SExp) → Nat → List (TV SExp) × Nat
    | _, [], m => ([], m)
    | i, v :: vs, m =>
      let (v, m) := if ps.contains (.kill i) then (.one .dead, m)
        else if W.contains i then
          (if ps.contains (.live i) then gTV v m else if ps.contains (.keep i) then (v, m) else (.one .dead, m))
        else if ps.contains (.live i) then gTV v m else (v, m)
      let (vs, m) := tm (i + 1) vs m
      (v :: vs, m)
  let (tmps, m) := tm 0 σ.tmps σ.m
  let rec hp : Nat → HL → Nat → HL × Nat
    | _, [], m => ([], m)
    | j, (n, o) :: h, m =>
      let (o, m) := if ps.contains (.obj j) then gObj o m else (o, m)
      let (h, m) := hp (j + 1) h m
      (if ps.contains (.dropn j) then h else (n, o) :: h, m)
  let (heap, m') := hp 0 σ.heap m
  ({ tmps, heap, stamp := σ.stamp, m := m' }, m' - σ.m)

/-! #### the walk -/
structure FnCx where
  C : Cx
  fn : Nat
  res : List ResultVar
  sig : Sig
  hints : List (Nat × List Pos)
/-- The boxes among the parameters. -/
def boxNames : Nat → List PK → List Name
  | _, [] => []
  | i, .box .. :: ps => nmE (1000 * i) :: boxNames (i + 1) ps
  | i, .val .. :: ps => boxNames (i + 1) ps
def FnCx.bn (F : FnCx) : List Name := boxNames 0 F.sig.params
def isBoxPK : PK → Bool
  | .box .. => true
  | .val .. => false
def retGo (F : FnCx) (σ : SS) (vs : List (SV SExp)) : Out :=
  symEff false (.bad F.fn 0 0 4) σ.heap (argsIn false (F.sig.results.map RK.asPK ++ F.sig.params.filter isBoxPK) (vs ++ F.bn.map fun b => .ref b 0)) σ.m [] fun (xs, u, bs) m _ =>
    if m == σ.m && nodup (List.map (fun p : Name × Obj SExp => p.1) u ++ bs.map (·.1)) then pure (.ret xs) else .error (.bad F.fn 0 0 5)
def retRd (F : FnCx) (σ : SS) : List ResultVar → List (SV SExp) → Out
  | [], vs => retGo F σ vs
  | .tmp t :: rs, vs => match (σ.tmps[t]?).bind one? with
    | some v => retRd F σ rs (vs ++ [v])
    | none => .error (.bad F.fn 0 t 6)
  | .cell a t :: rs, vs => match (σ.tmps[a]?).bind one? with
    | some v => symEff false (.bad F.fn 0 0 4) σ.heap (loadV F.C t v) σ.m [] fun (tv, u) m _ => match tv with
      | .one v => if m == σ.m && u.isEmpty then retRd F σ rs (vs ++ [v]) else .error (.bad F.fn 0 0 4)
      | _ => .error (.bad F.fn 0 0 4)
    | none => .error (.bad F.fn 1 a 6)
/-- Results that are nil slices, where the call hands on a row of its own. -/
def retPos (F : FnCx) (σ : SS) : List Pos :=
  (F.sig.results.zip F.res).filterMap fun (rk, rv) => match rk, rv with
    | .val false [(.sl e, true)], .tmp t => (match σ.tmps[t]? with
      | some (.one .nils) => some (.ownify t e)
      | _ => none)
    | _, _ => none
def symRet (F : FnCx) (σ : SS) : Out := retRd F (ghost F.C (retPos F σ) σ) F.res []
/-- A temporary that is wanted, but was given up at a loop's head: which loop gave it up. -/
def whoKilled (fn rid i : Nat) (js : List JRec) (t : Nat) : Err :=
  match js.reverse.find? fun J => match J.entry.tmps[t]? with
    | some (.one .dead) => false
    | _ => true with
  | some J => .need J.key (.live t)
  | none => .bad fn rid i 7
def erase : List SItem → List SItem := id
def sym (F : FnCx) : Nat → List (JRec × List SItem) → SS → List SItem → Out
  | 0, _, _, _ => .error (.bad F.fn 0 0 8)
  | k + 1, js, σ, [] => symRet F σ
  | k + 1, js, σ, .inBlock _ :: td => sym F k js σ td
  | k + 1, js, σ, .inLoop _ j :: _ => match js[j]? with
    | some (J, _) => symJump F.bn F.fn j J σ
    | none => .error (.bad F.fn 0 j 9)
  | k + 1, js, σ, .join j :: _ => match js[j]? with
    | some (J, _) => symJump F.bn F.fn j J σ
    | none => .error (.bad F.fn 0 j 9)
  | k + 1, js, σ, .code c :: td =>
    match c with
    | .skip => sym F k js σ td
    | .seq a b => sym F k js σ (.code a :: .code b :: td)
    | .block id a => sym F k js σ (.code a :: .inBlock id :: td)
    | .exit id => match exitTo' id td with
      | some td' => sym F k js σ td'
      | none => .error (.bad F.fn 0 id 10)
    | .ret => symRet F σ
    | .region id ops draw =>
      if σ.heap.all (fun p => decide (p.1.1 < σ.stamp)) then
        symOps F.C F.fn id draw (whoKilled F.fn id 0 (js.map (·.1))) ops.toList 0 ops.toList σ [] fun σ' rs =>
          if !draw || drawOk ops rs then sym F k js σ' td else .error (.bad F.fn id 0 11)
      else .error (.bad F.fn id 0 21)
    | .cond c a b => match (rdOpd σ.tmps c).bind one? with
      | some (.c (.d .bool x)) => match x with
        | .lt (.bool t) => sym F k js σ (.code (if t then a else b) :: td)
        | x =>
          match (keyOfK td).bind fun key => (F.hints.find? (·.1 == 1000000 + key)).map fun h => (key, h.2) with
          | some (key, ps) => do
            let σ0 := ghost F.C ps σ
            let (pat, n) := mkPat (dsts a ++ dsts b) ps σ0
            let J : JRec := ⟨1000000 + key, σ0, pat, σ0.m, n⟩
            let js' := js ++ [(J, td)]
            let body ← sym F k js' pat td
            let x1 ← sym F k js' σ0 [.code a, .join js.length]
            let x2 ← sym F k js' σ0 [.code b, .join js.length]
            pure (.join n body (.ite x x1 x2))
          | none => do pure (.ite x (← sym F k js σ (.code a :: td)) (← sym F k js σ (.code b :: td)))
      | _ => .error (match c with | .tmp t => whoKilled F.fn 0 0 (js.map (·.1)) t | _ => .bad F.fn 0 0 12)
    | .loop a => do
      let key := (keyOf a).getD 0
      let ps := ((F.hints.find? (·.1 == key)).map (·.2)).getD []
      let σ0 := ghost F.C ps σ
      let (pat, n) := mkPat (dsts a) ps σ0
      let J : JRec := ⟨key, σ0, pat, σ0.m, n⟩
      let entry ← symJump F.bn F.fn js.length J σ0
      let body ← sym F k (js ++ [(J, [])]) pat (.code a :: .inLoop a js.length :: td)
      pure (.join n body entry)
    | .label _ => .error (.bad F.fn 0 0 13)
    | .goto _ => .error (.bad F.fn 0 0 14)
    | .scope _ => .error (.bad F.fn 0 0 15)
    | .rangeFunc .. => .error (.bad F.fn 0 0 16)
    | .refuse _ => .error (.bad F.fn 0 0 17)
def symFn (C : Cx) (hints : List (Nat × List Pos)) (f : Nat) : Out :=
  match C.P.funcs[f]?, C.sig f with
  | some fn, some sg =>
    let k := (sg.params.map fun | .val _ cs => cs.length | .box _ cs => cs.length).sum
    match fn.body, resBack nmE 0 (sg.params.map PK.asRK) (vars 0 k) with
    | some c, some (vs, u, []) =>
      if sg.params.length ≤ fn.ntmps && fn.name != "runtime.NumGoroutine" then
        sym ⟨C, f, fn.results.toList, sg, hints⟩ 100000 [] ⟨vs.map .one ++ List.replicate (fn.ntmps - sg.params.length) skipTV, hputs [] u, 1, k⟩ [.code c]
      else .error (.bad f 0 0 18)
    | _, _ => .error (.bad f 0 0 19)
  | _, _ => .error (.bad f 0 0 20)
end Go.Fw
