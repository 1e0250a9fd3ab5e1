/- The framework: plain data for what the program does in memory; texts put together by merge.py (part 4 of 4). -/
import Derived.Carry
import Derived.ChangeArms
import Derived.ChangeSlices
import Derived.OpenShut
import Derived.SizedLaws
import Derived.RowKit
import Derived.ProofKit
import Derived.Test.YtdjbjfmgdagcgaaFM3
set_option linter.unusedSectionVars false
set_option linter.unusedSimpArgs false
set_option linter.unusedVariables false
/- The framework, part 34: patterns: a state under other names, and variables for data. -/
namespace Go.Fw
open Alg
theorem ren_mem {r : Ren} {n n' : Name} {d : Nat} (h : r.get n = some (n', d)) : (n, n', d) ∈ r := by
  unfold Ren.get at h
  rw [Option.map_eq_some_iff] at h
  obtain ⟨p, hp, h⟩ := h
  have h1 := List.find?_some hp
  rw [beq_iff_eq] at h1
  obtain ⟨a, b, c⟩ := p
  simp only [Prod.mk.injEq] at h
  obtain ⟨rfl, rfl⟩ := h
  dsimp only at h1
  subst h1
  exact List.mem_of_find?_eq_some hp
theorem nodupR_fst : ∀ {r : Ren}, nodupR r = true → ∀ {n a b : Name} {c d : Nat}, (n, a, c) ∈ r → (n, b, d) ∈ r → a = b ∧ c = d
  | [], _, n, a, b, c, d, h, _ => by cases h
  | p :: r, hr, n, a, b, c, d, h1, h2 => by
    simp only [nodupR, Bool.and_eq_true, List.all_eq_true, bne_iff_ne, ne_eq] at hr
    rcases List.mem_cons.1 h1 with e1 | h1 <;> rcases List.mem_cons.1 h2 with e2 | h2
    · rw [← e1] at e2; simp only [Prod.mk.injEq, true_and] at e2; exact ⟨e2.1.symm, e2.2.symm⟩
    · exact absurd (by rw [← e1]) (hr.1 _ h2).1
    · exact absurd (by rw [← e2]) (hr.1 _ h1).1
    · exact nodupR_fst hr.2 h1 h2
theorem nodupR_snd : ∀ {r : Ren}, nodupR r = true → ∀ {n m a : Name} {c d : Nat}, (n, a, c) ∈ r → (m, a, d) ∈ r → n = m
  | [], _, n, m, a, c, d, h, _ => by cases h
  | p :: r, hr, n, m, a, c, d, h1, h2 => by
    simp only [nodupR, Bool.and_eq_true, List.all_eq_true, bne_iff_ne, ne_eq] at hr
    rcases List.mem_cons.1 h1 with e1 | h1 <;> rcases List.mem_cons.1 h2 with e2 | h2
    · rw [← e1] at e2; simp only [Prod.mk.injEq] at e2; exact e2.1.symm
    · exact absurd (by rw [← e1]) (hr.1 _ h2).2
    · exact absurd (by rw [← e2]) (hr.1 _ h1).2
    · exact nodupR_snd hr.2 h1 h2
section
variable {C : Cx} {w : World} {S : Nat → Prop} {h hE : Hp} {μ μE : Mu} {r : Ren} {f : SExp → SExp} {φ ψ : SExp → D}
/-- What a name of the pattern has to do with the state's. -/
structure Lifts (C : Cx) (h hE : Hp) (μ μE : Mu) (r : Ren) : Prop where
  mu : ∀ n n' d, (n, n', d) ∈ r → μE n = μ n'
  box : ∀ n n' d, (n, n', d) ∈ r → ∀ T cs, h n' = some (.box T cs) → ∃ cs', hE n = some (.box T cs')
  bld : ∀ n n' d, (n, n', d) ∈ r → ∀ s, h n' = some (.bld s) → ∃ s', hE n = some (.bld s')
  tok : ∀ n n' d, (n, n', d) ∈ r → ∀ e x g st, h n' = some (.tok e x g st) → ∃ g0, hE n = some (.tok e x g0 st) ∧ g = g0 + d
variable (hL : Lifts C h hE μ μE r) (hf : ∀ x, φ (f x) = ψ x)
include hL hf
theorem inst_cell {c c' : Cell SExp} (hi : c.inst r f = some c') {t : Ty} {cs : List Value} (hc : CellRep C w S h μ t (c'.map φ) cs) : CellRep C w S hE μE t (c.map ψ) cs := by
  cases c with
  | d u x =>
    simp only [Cell.inst, Option.some.injEq] at hi
    subst hi
    simp only [Cell.map, hf] at hc ⊢
    cases hc with
    | d _ _ _ hr => exact .d _ _ _ hr
  | own n g =>
    simp only [Cell.inst, Option.map_eq_some_iff] at hi
    obtain ⟨⟨n', k⟩, h1, rfl⟩ := hi
    have hm := ren_mem h1
    simp only [Cell.map] at hc ⊢
    cases hc with
    | own e _ _ rows g' st v hn hg hv h1 =>
    obtain ⟨g0, h2, rfl⟩ := hL.tok n n' k hm e rows g' st hn
    exact .own e n g rows g0 st v h2 (by omega) (fun e => by rw [hL.mu n n' k hm]; exact hv (by omega)) h1
theorem mapM_cons' {A B : Type} {g : A → Option B} {a : A} {l : List A} {bs : List B} (h : (a :: l).mapM g = some bs) : ∃ b bs', g a = some b ∧ l.mapM g = some bs' ∧ bs = b :: bs' := by
  rw [List.mapM_cons] at h
  simp only [Option.bind_eq_bind, Option.bind_eq_some_iff, Option.pure_def, Option.some.injEq] at h
  obtain ⟨b, h1, bs', h2, rfl⟩ := h
  exact ⟨b, bs', h1, h2, rfl⟩
theorem inst_cells : ∀ {cs cs' : List (Cell SExp)}, cs.mapM (Cell.inst r f) = some cs' → ∀ {ts : List Ty} {vs : List Value}, CellsRep C w S h μ ts (cs'.map (Cell.map φ)) vs → CellsRep C w S hE μE ts (cs.map (Cell.map ψ)) vs
  | [], cs', hi, ts, vs, hc => by
    simp only [List.mapM_nil, Option.pure_def, Option.some.injEq] at hi
    subst hi
    cases hc
    exact .nil
  | c :: cs, cs', hi, ts, vs, hc => by
    obtain ⟨b, bs', h1, h2, rfl⟩ := mapM_cons' hL hf hi
    rw [List.map_cons] at hc ⊢
    cases hc with
    | cons t ts d ds c1 c2 hd hs => exact .cons t ts _ _ c1 c2 (inst_cell hL hf h1 hd) (inst_cells h2 hs)
theorem inst_box {n n' : Name} {d : Nat} (h1 : r.get n = some (n', d)) {blk : Nat} (hb : isBox h μ n' blk) : isBox hE μE n blk := by
  have hm := ren_mem h1
  obtain ⟨hb, hv⟩ := hb
  refine ⟨?_, (hL.mu n n' d hm).trans hv⟩
  rcases hb with ⟨T, cs, hb⟩ | ⟨s, hb⟩
  · obtain ⟨cs', h2⟩ := hL.box n n' d hm T cs hb
    exact .inl ⟨T, cs', h2⟩
  · obtain ⟨s', h2⟩ := hL.bld n n' d hm s hb
    exact .inr ⟨s', h2⟩
theorem inst_caps : ∀ {cs cs' : List (Cell SExp ⊕ Name)}, cs.mapM (Cap.inst r f) = some cs' → ∀ {vs : List Value}, CapsRep C w S h μ (cs'.map (Cap.map φ)) vs → CapsRep C w S hE μE (cs.map (Cap.map ψ)) vs
  | [], cs', hi, vs, hc => by
    simp only [List.mapM_nil, Option.pure_def, Option.some.injEq] at hi
    subst hi
    cases hc
    exact .nil
  | c :: cs, cs', hi, vs, hc => by
    obtain ⟨b, bs', h1, h2, rfl⟩ := mapM_cons' hL hf hi
    rw [List.map_cons] at hc ⊢
    cases c with
    | inl y =>
      simp only [Cap.inst, Option.map_eq_some_iff] at h1
      obtain ⟨y', h1, rfl⟩ := h1
      simp only [Cap.map] at hc ⊢
      cases hc with
      | inl _ _ t v vs hc hl => exact .inl _ _ t v vs (inst_cell hL hf h1 hc) (inst_caps h2 hl)
    | inr n =>
      simp only [Cap.inst, Option.map_eq_some_iff] at h1
      obtain ⟨⟨n', k⟩, h1, rfl⟩ := h1
      simp only [Cap.map] at hc ⊢
      cases hc with
      | inr _ blk _ vs hb hl => exact .inr n blk _ vs (inst_box hL hf h1 hb) (inst_caps h2 hl)
theorem inst_sv {v v' : SV SExp} (hi : v.inst r f = some v') {u : Value} (hc : SVRep C w S h μ (v'.map φ) u) : SVRep C w S hE μE (v.map ψ) u := by
  cases v with
  | c y =>
    simp only [SV.inst, Option.map_eq_some_iff] at hi
    obtain ⟨y', h1, rfl⟩ := hi
    simp only [SV.map] at hc ⊢
    cases hc with
    | c _ t _ hc => exact .c _ t _ (inst_cell hL hf h1 hc)
  | agg cs =>
    simp only [SV.inst, Option.map_eq_some_iff] at hi
    obtain ⟨y', h1, rfl⟩ := hi
    simp only [SV.map] at hc ⊢
    cases hc with
    | agg _ ts cs hc => exact .agg _ ts cs (inst_cells hL hf h1 hc)
  | ref b o =>
    simp only [SV.inst, Option.map_eq_some_iff] at hi
    obtain ⟨⟨n', k⟩, h1, rfl⟩ := hi
    simp only [SV.map] at hc ⊢
    cases hc with
    | ref _ _ blk hb => exact .ref b o blk (inst_box hL hf h1 hb)
  | refi b o n e i j =>
    simp only [SV.inst, Option.map_eq_some_iff] at hi
    obtain ⟨⟨n', k⟩, h1, rfl⟩ := hi
    simp only [SV.map, hf] at hc ⊢
    generalize ψ i = pi at hc
    cases hc with
    | refi _ _ _ _ i _ blk hb hi => exact .refi b o n e i j blk (inst_box hL hf h1 hb) hi
  | ro x e o =>
    simp only [SV.inst, Option.some.injEq] at hi
    subst hi
    simp only [SV.map, hf] at hc ⊢
    generalize ψ x = px at hc
    cases hc with
    | ro row _ _ b o ts cells hs ht hr hl => exact .ro row _ _ b o ts cells hs ht hr hl
  | oel n g i o =>
    simp only [SV.inst, Option.map_eq_some_iff] at hi
    obtain ⟨⟨n', k⟩, h1, rfl⟩ := hi
    have hm := ren_mem h1
    simp only [SV.map, hf] at hc ⊢
    generalize ψ i = pi at hc
    cases hc with
    | oel _ _ i _ e rows g' st v hn hg hv hp =>
    obtain ⟨g0, h2, rfl⟩ := hL.tok n n' k hm e _ g' st hn
    exact .oel n g i o e rows g0 st u h2 (by omega) (fun e => by rw [hL.mu n n' k hm]; exact hv (by omega)) hp
  | nils =>
    simp only [SV.inst, Option.some.injEq] at hi
    subst hi
    simp only [SV.map] at hc ⊢
    cases hc
    exact .nils
  | nilp =>
    simp only [SV.inst, Option.some.injEq] at hi
    subst hi
    simp only [SV.map] at hc ⊢
    cases hc
    exact .nilp
  | clo g caps =>
    simp only [SV.inst, Option.map_eq_some_iff] at hi
    obtain ⟨y', h1, rfl⟩ := hi
    simp only [SV.map] at hc ⊢
    cases hc with
    | clo _ _ cv hc => exact .clo g _ cv (inst_caps hL hf h1 hc)
  | dead => exact .dead u
theorem inst_svs : ∀ {vs vs' : List (SV SExp)}, vs.mapM (SV.inst r f) = some vs' → ∀ {us : List Value}, SVsRep C w S h μ (vs'.map (SV.map φ)) us → SVsRep C w S hE μE (vs.map (SV.map ψ)) us
  | [], vs', hi, us, hc => by
    simp only [List.mapM_nil, Option.pure_def, Option.some.injEq] at hi
    subst hi
    cases hc
    exact .nil
  | v :: vs, vs', hi, us, hc => by
    obtain ⟨b, bs', h1, h2, rfl⟩ := mapM_cons' hL hf hi
    rw [List.map_cons] at hc ⊢
    cases hc with
    | cons x xs v vs hx hs => exact .cons _ _ _ _ (inst_sv hL hf h1 hx) (inst_svs h2 hs)
theorem inst_tv {v v' : TV SExp} (hi : v.inst r f = some v') {u : Value} (hc : TVRep C w S h μ (v'.map φ) u) : TVRep C w S hE μE (v.map ψ) u := by
  cases v with
  | one v =>
    simp only [TV.inst, Option.map_eq_some_iff] at hi
    obtain ⟨y', h1, rfl⟩ := hi
    simp only [TV.map] at hc ⊢
    cases hc with
    | one _ _ hx => exact .one _ _ (inst_sv hL hf h1 hx)
  | tup vs =>
    simp only [TV.inst, Option.map_eq_some_iff] at hi
    obtain ⟨y', h1, rfl⟩ := hi
    simp only [TV.map] at hc ⊢
    cases hc with
    | tup _ us hx => exact .tup _ us (inst_svs hL hf h1 hx)
theorem inst_obj {o o' : Obj SExp} {d : Nat} (hi : o.inst r f d = some o') {u : Value} (hc : ObjRep C w S h μ (o'.map φ) u) : ObjRep C w S hE μE (o.map ψ) u := by
  cases o with
  | box t cs =>
    simp only [Obj.inst, Option.map_eq_some_iff] at hi
    obtain ⟨y', h1, rfl⟩ := hi
    simp only [Obj.map] at hc ⊢
    cases hc with
    | box _ ts _ b cells ht hb hc => exact .box _ ts _ b cells ht hb (inst_cells hL hf h1 hc)
  | tok e x g st =>
    simp only [Obj.inst, Option.some.injEq] at hi
    subst hi
    simp only [Obj.map, hf] at hc ⊢
    generalize ψ x = px at hc
    cases hc with
    | live _ ts rows _ _ cells ht hr ho => exact .live e ts rows g u cells ht hr ho
    | empty _ ts _ A ht => exact .empty e ts g A ht
    | frozen _ rows _ _ hr => exact .frozen e rows g u hr
    | gone _ rows _ _ => exact .gone e _ g u
  | bld s =>
    simp only [Obj.inst, Option.some.injEq] at hi
    subst hi
    simp only [Obj.map] at hc
    cases hc
end
theorem obj_kind {r : Ren} {f : SExp → SExp} {d : Nat} {o o' : Obj SExp} (hi : o.inst r f d = some o') {φ ψ : SExp → D} (hf : ∀ x, φ (f x) = ψ x) :
    (∀ T cs, o'.map φ = .box T cs → ∃ cs', o.map ψ = .box T cs') ∧ (∀ s, o'.map φ = .bld s → ∃ s', o.map ψ = .bld s') ∧ (∀ e x g st, o'.map φ = .tok e x g st → ∃ g0, o.map ψ = .tok e x g0 st ∧ g = g0 + d) ∧ ((o.map ψ).owned = true → (o'.map φ).owned = true) := by
  cases o with
  | box t cs =>
    simp only [Obj.inst, Option.map_eq_some_iff] at hi
    obtain ⟨y', h1, rfl⟩ := hi
    simp only [Obj.map]
    refine ⟨fun T cs e => ?_, fun s e => (by cases e), fun e x g st h => (by cases h), fun _ => rfl⟩
    injection e with e1 e2
    exact ⟨_, by rw [e1]⟩
  | tok e x g st =>
    simp only [Obj.inst, Option.some.injEq] at hi
    subst hi
    simp only [Obj.map, hf]
    refine ⟨fun T cs e => (by cases e), fun s e => (by cases e), fun e x g st h => ?_, fun h => h⟩
    injection h with h1 h2 h3 h4
    subst h1 h2 h3 h4
    exact ⟨_, rfl, rfl⟩
  | bld s =>
    simp only [Obj.inst, Option.some.injEq] at hi
    subst hi
    simp only [Obj.map]
    exact ⟨fun T cs e => (by cases e), fun s e => ⟨_, rfl⟩, fun e x g st h => (by cases h), fun _ => rfl⟩
/-- A state that passes the check is the pattern's. -/
theorem inst_sound {C : Cx} {w0 : World} {S0 M0 : Nat → Prop} {bx : List (Name × Value)} {w : World} {a : Act} {r : Ren} {pat σ : SS} {base : Nat} {args : List SExp} {ρ : List D} (hok : instOK r (·.subst base args) pat σ = true) (hb : base ≤ ρ.length) (hbx : ∀ p ∈ bx, ∃ d, r.get p.1 = some (p.1, d))
    (hm : MRep C w0 S0 M0 bx (σ.den ρ) a w) : MRep C w0 S0 M0 bx (pat.den (ρ.take base ++ args.map (SExp.eval ρ))) a w := by
  obtain ⟨hd, S, μ, H, T, B⟩ := hm
  simp only [instOK, Bool.and_eq_true, List.all_eq_true, beq_iff_eq, List.any_eq_true] at hok
  obtain ⟨⟨⟨⟨hnd, hlen⟩, htm⟩, hhp⟩, hrn⟩ := hok
  have hf : ∀ x, SExp.eval ρ (x.subst base args) = SExp.eval (ρ.take base ++ args.map (SExp.eval ρ)) x := fun x => eval_subst ρ base hb args x
  generalize (ρ.take base ++ args.map (SExp.eval ρ)) = ρ' at hf
  have hent : ∀ n n' d, (n, n', d) ∈ r → ∃ o o' : Obj SExp, hget pat.heap n = some o ∧ hget σ.heap n' = some o' ∧ o.inst r (·.subst base args) d = some o' := fun n n' d hm => by
    have := hrn (n, n', d) hm
    dsimp only at this
    split at this
    · rename_i o o' h1 h2
      exact ⟨o, o', h1, h2, by simpa using this⟩
    · cases this
  have hdom : ∀ n o, hget pat.heap n = some o → ∃ n' d, (n, n', d) ∈ r ∧ r.get n = some (n', d) := fun n o ho => by
    obtain ⟨⟨a, b, c⟩, h1, h2⟩ := hhp _ (hget_mem ho)
    dsimp only at h2
    subst h2
    cases hg : r.get a with
    | none =>
      unfold Ren.get at hg
      rw [Option.map_eq_none_iff, List.find?_eq_none] at hg
      exact absurd (by simp) (hg _ h1)
    | some p => exact ⟨p.1, p.2, ren_mem hg, rfl⟩
  let src : Name → Name := fun n => ((r.get n).map (·.1)).getD n
  have hsrc : ∀ n n' d, (n, n', d) ∈ r → src n = n' := fun n n' d hm => by
    obtain ⟨o, o', h1, _, _⟩ := hent n n' d hm
    obtain ⟨n2, d2, h3, h4⟩ := hdom n o h1
    obtain ⟨e1, e2⟩ := nodupR_fst hnd hm h3
    show ((r.get n).map (·.1)).getD n = n'
    rw [h4, e1]
    rfl
  let μE : Mu := fun n => μ (src n)
  have hL : Lifts C (σ.den ρ).heap (pat.den ρ').heap μ μE r := by
    have key : ∀ n n' d, (n, n', d) ∈ r → ∃ o o' : Obj SExp, (pat.den ρ').heap n = some (o.map (SExp.eval ρ')) ∧ (σ.den ρ).heap n' = some (o'.map (SExp.eval ρ)) ∧ o.inst r (·.subst base args) d = some o' := fun n n' d hm => by
      obtain ⟨o, o', h1, h2, h3⟩ := hent n n' d hm
      exact ⟨o, o', by simp [SS.den, h1], by simp [SS.den, h2], h3⟩
    refine ⟨fun n n' d hm => by show μ (src n) = μ n'; rw [hsrc n n' d hm], fun n n' d hm T cs hh => ?_, fun n n' d hm s hh => ?_, fun n n' d hm e x g st hh => ?_⟩
    · obtain ⟨o, o', h1, h2, h3⟩ := key n n' d hm
      rw [h2] at hh
      injection hh with hh
      obtain ⟨cs', h4⟩ := (obj_kind h3 hf).1 T cs hh
      exact ⟨cs', by rw [h1, h4]⟩
    · obtain ⟨o, o', h1, h2, h3⟩ := key n n' d hm
      rw [h2] at hh
      injection hh with hh
      obtain ⟨cs', h4⟩ := (obj_kind h3 hf).2.1 s hh
      exact ⟨cs', by rw [h1, h4]⟩
    · obtain ⟨o, o', h1, h2, h3⟩ := key n n' d hm
      rw [h2] at hh
      injection hh with hh
      obtain ⟨g0, h4, h5⟩ := (obj_kind h3 hf).2.2.1 e x g st hh
      exact ⟨g0, by rw [h1, h4], h5⟩
  refine ⟨hd, S, μE, H.std src (fun n o ho => ?_) (fun n m o o' hn hm' he => ?_), ⟨?_, fun i tv hi => ?_⟩, fun p hp => ?_⟩
  · simp only [SS.den, Option.map_eq_some_iff] at ho
    obtain ⟨p, hp, rfl⟩ := ho
    obtain ⟨n', d, h1, _⟩ := hdom n p hp
    obtain ⟨o, o', h2, h3, h4⟩ := hent n n' d h1
    rw [hp] at h2
    injection h2 with h2
    subst h2
    have hσ : (σ.den ρ).heap n' = some (o'.map (SExp.eval ρ)) := by simp [SS.den, h3]
    refine ⟨rfl, ⟨_, by rw [hsrc n n' d h1]; exact hσ, (obj_kind h4 hf).2.2.2⟩, ?_⟩
    have := H.obj n' _ hσ
    show ObjRep C w S _ μE _ (μ (src n))
    rw [hsrc n n' d h1]
    exact inst_obj hL hf h4 this
  · simp only [SS.den, Option.map_eq_some_iff] at hn hm'
    obtain ⟨p, hp, _⟩ := hn
    obtain ⟨q, hq, _⟩ := hm'
    obtain ⟨n', d, h1, _⟩ := hdom n p hp
    obtain ⟨m', d', h2, _⟩ := hdom m q hq
    rw [hsrc n n' d h1, hsrc m m' d' h2] at he
    subst he
    exact nodupR_snd hnd h1 h2
  · have := T.1
    simp only [SS.den, List.length_map] at this ⊢
    rw [this, hlen]
  · simp only [SS.den, List.getElem?_map, Option.map_eq_some_iff] at hi
    obtain ⟨p, hp, rfl⟩ := hi
    have hlt : i < σ.tmps.length := by rw [← hlen]; exact (List.getElem?_eq_some_iff.1 hp).1
    have hq := List.getElem?_eq_getElem hlt
    have hz := htm (p, σ.tmps[i]) (by
      have : (pat.tmps.zip σ.tmps)[i]? = some (p, σ.tmps[i]) := by
        rw [List.getElem?_zip_eq_some]
        exact ⟨hp, hq⟩
      exact List.mem_of_getElem? this)
    simp only [Bool.or_eq_true, beq_iff_eq] at hz
    have hT := T.2 i ((σ.tmps[i]).map (SExp.eval ρ)) (by simp [SS.den, hq])
    rcases hz with rfl | hz
    · exact .one _ _ (.dead _)
    · exact inst_tv hL hf hz hT
  · obtain ⟨blk, b1, b2⟩ := B p hp
    obtain ⟨d, hd'⟩ := hbx p hp
    exact ⟨blk, inst_box hL hf hd' b1, b2⟩

/-! ### nil slices taken for rows of the call's own -/
theorem ghost_sound {C : Cx} {w0 : World} {S0 M0 : Nat → Prop} {bx : List (Name × Value)} {w : World} {a : Act} {σ : SS} {ρ : List D} (ps : List Pos) (hm : MRep C w0 S0 M0 bx (σ.den ρ) a w) : MRep C w0 S0 M0 bx ((ghost C ps σ).den ρ) a w := by
  have key : ∀ (ps : List Pos) (σ : SS), MRep C w0 S0 M0 bx (σ.den ρ) a w → MRep C w0 S0 M0 bx ((ps.foldl (fun (σ : SS) p => match p with
    | .ownify t e => match σ.tmps[t]? with
      | some (.one .nils) => if (hget σ.heap (σ.stamp, 0, t)).isNone && (C.tab e).isSome then { σ with tmps := σ.tmps.set t (.one (.c (.own (σ.stamp, 0, t) 0))), heap := hput σ.heap (σ.stamp, 0, t) (.tok e (.lt .nil) 0 .live) } else σ
      | _ => σ
    | .nilgen t e => match σ.tmps[t]? with
      | some (.one .nils) => { σ with tmps := σ.tmps.set t (.one (.c (.d (.sl e) (.lt .nil)))) }
      | _ => σ
    | _ => σ) σ).den ρ) a w := by
    intro ps
    induction ps with
    | nil => intro σ h; exact h
    | cons p ps ih =>
      intro σ h
      rw [List.foldl_cons]
      refine ih _ ?_
      obtain ⟨hd, S, μ, H, T, B⟩ := h
      have hnil : ∀ {t : Nat}, σ.tmps[t]? = some (.one .nils) → a.tmps.getD t undef = .slice none 0 0 := fun {t} ht => by
        have := T.2 t (.one .nils) (by simp [SS.den, ht]; rfl)
        generalize a.tmps.getD t undef = vv at this ⊢
        cases this with
        | one _ _ hx => cases hx; rfl
      have hset : ∀ {t : Nat} {S' : Nat → Prop} {h' : Hp} {μ' : Mu} {v : TV SExp}, σ.tmps[t]? = some (.one .nils) → Ext S μ (σ.den ρ).heap w S' μ' h' w → TVRep C w S' h' μ' (v.map (SExp.eval ρ)) (.slice none 0 0) →
          TmpsRep C w S' h' μ' ((σ.tmps.set t v).map (TV.map (SExp.eval ρ))) a := fun {t S' h' μ' v} ht X hv => by
        have T' := T.mono X
        refine ⟨by rw [T'.1]; simp [SS.den], fun i tv hi => ?_⟩
        simp only [List.map_set, List.getElem?_set] at hi
        split at hi
        · rename_i e
          subst e
          split at hi
          · injection hi with hi
            subst hi
            rw [hnil ht]
            exact hv
          · cases hi
        · exact T'.2 i tv hi
      split
      · rename_i t e
        split
        · rename_i ht
          split
          · rename_i hc
            simp only [Bool.and_eq_true, Option.isNone_iff_eq_none] at hc
            obtain ⟨ts, hts⟩ := Option.isSome_iff_exists.1 hc.2
            have hn : (σ.den ρ).heap (σ.stamp, 0, t) = none := by simp [SS.den, hc.1]
            obtain ⟨H', X⟩ := H.nilRow hn hts
            have eh : (SS.den { σ with tmps := σ.tmps.set t (.one (.c (.own (σ.stamp, 0, t) 0))), heap := hput σ.heap (σ.stamp, 0, t) (.tok e (.lt .nil) 0 .live) } ρ).heap = upd (σ.den ρ).heap (σ.stamp, 0, t) (some (.tok e (.rows []) 0 .live)) := by
              funext n
              simp only [SS.den, hget_put, upd]
              split <;> rfl
            refine ⟨hd, S, _, by rw [eh]; exact H', ?_, fun p hp => by obtain ⟨blk, b1, b2⟩ := B p hp; rw [eh]; exact ⟨blk, b1.mono X, b2⟩⟩
            rw [eh]
            refine hset ht X ?_
            refine .one _ _ (.c _ _ _ (.own e _ 0 (.rows []) 0 .live _ (by simp [upd]) (Nat.le_refl _) (fun _ => by simp [upd]) rfl))
          · exact ⟨hd, S, μ, H, T, B⟩
        · exact ⟨hd, S, μ, H, T, B⟩
      · rename_i t e
        split
        · rename_i ht
          refine ⟨hd, S, μ, H, ?_, B⟩
          exact hset ht .refl (.one _ _ (.c _ _ _ (.d _ _ _ (.nil e none 0))))
        · exact ⟨hd, S, μ, H, T, B⟩
      · exact ⟨hd, S, μ, H, T, B⟩
  exact key ps σ hm
end Go.Fw
/- The framework, part 35: what a function returns. -/
namespace Go.Fw
open Alg
theorem filter_box (ps : List PK) : ps.filter isBoxPK = boxPKs ps := by
  unfold boxPKs
  congr 1
  funext p
  cases p <;> rfl
section
variable {C : Cx} {w0 : World} {S0 M0 : Nat → Prop} {w : World} {S : Nat → Prop} {h : Hp} {μ : Mu} {V : Vt}
theorem refs_rep : ∀ {bn : List Name} {bv : List Value}, bn.length = bv.length → (∀ p ∈ bn.zip bv, ∃ blk, isBox h μ p.1 blk ∧ p.2 = .pointer (some ⟨blk, 0, none⟩)) → SVsRep C w S h μ (bn.map fun b => .ref b 0) bv
  | [], [], _, _ => .nil
  | b :: bn, v :: bv, hl, hb => by
    obtain ⟨blk, h1, h2⟩ := hb (b, v) (by simp)
    dsimp only at h1 h2
    subst h2
    exact .cons _ _ _ _ (.ref b 0 blk h1) (refs_rep (by simpa using hl) fun p hp => hb p (by simp [hp]))
  | [], _ :: _, hl, _ => by simp at hl
  | _ :: _, [], hl, _ => by simp at hl
end
/-- What a call leaves behind. -/
def Fin (C : Cx) (w0 : World) (S0 M0 : Nat → Prop) (sg : Sig) (bvals : List Value) (ys : List D) (vals : List Value) (w : World) : Prop := ∃ S' μ' h' nss, RH C w0 S0 M0 S' μ' h' w ∧ (srcNames nss).Nodup ∧
  (∀ n ∈ (nss.map (·.1)).flatten, ∃ e x g, h' n = some (.tok e x g .live)) ∧ ArgsRep C w S' h' μ' (sg.results.map RK.asPK ++ boxPKs sg.params) ys (vals ++ bvals) nss
section
variable {C : Cx} {V : Vt} {w0 : World} {S0 M0 : Nat → Prop} {w : World} {S : Nat → Prop} {μ : Mu}
theorem retGo_sound (hS : Sound C V) {F : FnCx} (hFC : F.C = C) {σ : SS} {vs : List (SV SExp)} {t : Tree} {n : Nat} {js : List (Tree × Nat)} {ρ ys : List D} (hs : retGo F σ vs = .ok t) (he : Ev C V n js t ρ ys) (hm : σ.m = ρ.length) (hsg : F.sig.ok C)
    (H : RH C w0 S0 M0 S μ (σ.den ρ).heap w) {vals bvals : List Value} (hv : SVsRep C w S (σ.den ρ).heap μ (vs.map (SV.map (SExp.eval ρ))) vals) (hl : F.bn.length = bvals.length)
    (hb : ∀ p ∈ F.bn.zip bvals, ∃ blk, isBox (σ.den ρ).heap μ p.1 blk ∧ p.2 = .pointer (some ⟨blk, 0, none⟩)) : Fin C w0 S0 M0 F.sig bvals ys vals w := by
  unfold retGo at hs
  rw [hm] at hs
  obtain ⟨⟨xs, u, bs⟩, ρ', rs, l', t', p1, p2, p3, p4, p5⟩ := symEff_path true hS.hN hs he
  dsimp only at p2
  split at p2
  · rename_i hc
    simp only [Bool.and_eq_true, beq_iff_eq] at hc
    obtain ⟨hlen, hnd⟩ := hc
    have e : ρ' = ρ := (p1.pre.eq_of_length hlen.symm).symm
    subst e
    injection p2 with p2
    subst p2
    cases p3 with
    | ret es =>
    have hrun : Runs C (V.nil none) (σ.den ρ').heap (argsIn false (F.sig.results.map RK.asPK ++ boxPKs F.sig.params) (vs.map (SV.map (SExp.eval ρ')) ++ F.bn.map fun b => .ref b 0)) (xs.map (SExp.eval ρ'), Upd.map (SExp.eval ρ') u, bs) := by
      refine ⟨rs, ?_⟩
      have := p1.run (hp := (σ.den ρ').heap) (g := fun τ => fun r : List SExp × Upd SExp × List (Name × PK) => (r.1.map (SExp.eval τ), Upd.map (SExp.eval τ) r.2.1, r.2.2))
        (e' := argsIn false (F.sig.results.map RK.asPK ++ boxPKs F.sig.params) (vs.map (SV.map (SExp.eval ρ')) ++ F.bn.map fun b => .ref b 0)) (fun τ a b => by
          have : τ = ρ' := (a.eq_of_length (Nat.le_antisymm a.length_le b.length_le)).symm
          subst this
          have := nd_argsIn (evalHom τ) false (F.sig.results.map RK.asPK ++ F.sig.params.filter isBoxPK) (vs ++ F.bn.map fun b => .ref b 0)
          rw [filter_box] at this ⊢
          rw [List.map_append, List.map_map] at this
          exact this) (fun τ a b n => by
          have : τ = ρ' := (a.eq_of_length (Nat.le_antisymm a.length_le b.length_le)).symm
          subst this
          rfl)
      simpa using this
    have hnd := nodup_spec hnd
    have hfst : List.map (fun p : Name × Obj D => p.1) (Upd.map (SExp.eval ρ') u) = List.map (fun p : Name × Obj SExp => p.1) u := Upd.map_fst _ _
    rw [← hfst] at hnd
    have hndu := (List.nodup_append.1 hnd).1
    have hok : ∀ p ∈ F.sig.results.map RK.asPK ++ boxPKs F.sig.params, p.ok C := fun p hp => by
      rcases List.mem_append.1 hp with hp | hp
      · obtain ⟨r, hr, rfl⟩ := List.mem_map.1 hp
        exact hsg.2.1 r hr
      · exact boxPKs_ok hsg.1 p hp
    have hSV := hv.append (refs_rep (C := C) (w := w) (S := S) hl hb)
    obtain ⟨Sf, nss, H1, X1, hu, hsrc, hgn, hnds, hAr, hfz, _⟩ := handOver H nmE_inj hok hSV hrun (hnd.sublist ((goneN_sub _).append (List.Sublist.refl _))) (fun n hn => fz_not_gone hndu hn)
    refine ⟨Sf, μ, _, nss, H1, hnds, fun n hn => ?_, hAr.congr hfz⟩
    rw [hfz n (List.mem_append.2 (.inl hn))]
    rw [hgn] at hn
    obtain ⟨p, hp, e, _⟩ := mem_goneN hn
    obtain ⟨e', rows, g, h1, _⟩ := hu p hp
    exact ⟨e', rows, g, by rw [← e]; exact h1⟩
  · cases p2
/-- How one result is read. -/
def readRes (tmps : Array Value) : ResultVar → Sem Value
  | .tmp t => pure (tmps.getD t undef)
  | .cell a t => do loadVar t (← asAddr (tmps.getD a undef))
theorem tmp_rep {σ : SS} {ρ : List D} {a : Act} {h : Hp} (T : TmpsRep C w S h μ (σ.den ρ).tmps a) {t : Nat} {v : SV SExp} (hv : (σ.tmps[t]?).bind one? = some v) : SVRep C w S h μ (v.map (SExp.eval ρ)) (a.tmps.getD t undef) := by
  rw [Option.bind_eq_some_iff] at hv
  obtain ⟨tv, h1, h2⟩ := hv
  refine one?_rep (T.2 t (tv.map (SExp.eval ρ)) (by simp [SS.den, h1])) ?_
  rw [nd_one?, h2]
  rfl
theorem retRd_sound (hS : Sound C V) {F : FnCx} (hFC : F.C = C) {σ : SS} {ρ ys : List D} {n : Nat} {js : List (Tree × Nat)} (hm : σ.m = ρ.length) (hsg : F.sig.ok C) {a : Act}
    (H : RH C w0 S0 M0 S μ (σ.den ρ).heap w) (T : TmpsRep C w S (σ.den ρ).heap μ (σ.den ρ).tmps a) {bvals : List Value} (hl : F.bn.length = bvals.length)
    (hb : ∀ p ∈ F.bn.zip bvals, ∃ blk, isBox (σ.den ρ).heap μ p.1 blk ∧ p.2 = .pointer (some ⟨blk, 0, none⟩)) : ∀ {rs : List ResultVar} {vs : List (SV SExp)} {vals : List Value} {t : Tree}, retRd F σ rs vs = .ok t → Ev C V n js t ρ ys →
    SVsRep C w S (σ.den ρ).heap μ (vs.map (SV.map (SExp.eval ρ))) vals → ∃ vals', (rs.mapM (readRes a.tmps)).run C.P w = .ok vals' w ∧ Fin C w0 S0 M0 F.sig bvals ys (vals ++ vals') w
  | [], vs, vals, t, hs, he, hv => ⟨[], rfl, by rw [List.append_nil]; exact retGo_sound hS hFC hs he hm hsg H hv hl hb⟩
  | .tmp x :: rs, vs, vals, t, hs, he, hv => by
    simp only [retRd] at hs
    split at hs
    · rename_i v hx
      have h1 := tmp_rep T hx
      have hv' : SVsRep C w S (σ.den ρ).heap μ ((vs ++ [v]).map (SV.map (SExp.eval ρ))) (vals ++ [a.tmps.getD x undef]) := by
        rw [List.map_append]
        exact hv.append (.cons _ _ _ _ h1 .nil)
      obtain ⟨vals', h2, h3⟩ := retRd_sound hS hFC hm hsg H T hl hb hs he hv'
      refine ⟨a.tmps.getD x undef :: vals', ?_, by rw [List.append_assoc] at h3; exact h3⟩
      rw [List.mapM_cons]
      simp only [readRes, Sem.run_bind, Sem.run_pure, Result.andThen_ok, h2]
    · cases hs
  | .cell x ty :: rs, vs, vals, t, hs, he, hv => by
    simp only [retRd] at hs
    split at hs
    · rename_i v hx
      have h1 := tmp_rep T hx
      rw [hm] at hs
      obtain ⟨⟨tv, u⟩, ρ', rd, l', t', p1, p2, p3, p4, p5⟩ := symEff_path true hS.hN hs he
      dsimp only at p2
      split at p2
      · rename_i v'
        split at p2
        · rename_i hc
          simp only [Bool.and_eq_true, beq_iff_eq, List.isEmpty_iff] at hc
          obtain ⟨hlen, rfl⟩ := hc
          have e : ρ' = ρ := (p1.pre.eq_of_length hlen.symm).symm
          subst e
          have hrun : Runs C (V.nil none) (σ.den ρ').heap (loadV C ty (v.map (SExp.eval ρ'))) (Res.map (SExp.eval ρ') (.one v', [])) := by
            refine ⟨rd, ?_⟩
            have := p1.run (hp := (σ.den ρ').heap) (g := fun τ => Res.map (SExp.eval τ)) (e' := loadV C ty (v.map (SExp.eval ρ'))) (fun τ a b => by
              have : τ = ρ' := (a.eq_of_length (Nat.le_antisymm a.length_le b.length_le)).symm
              subst this
              rw [hFC]
              exact nd_loadV (evalHom τ) C ty v) (fun τ a b n => by
              have : τ = ρ' := (a.eq_of_length (Nat.le_antisymm a.length_le b.length_le)).symm
              subst this
              rfl)
            simpa using this
          obtain ⟨⟨ad, had⟩, sv', u', e1, e2, e3⟩ := load_core hS.hC H h1 hrun
          simp only [Res.map, TV.map, Prod.mk.injEq, TV.one.injEq] at e1
          obtain ⟨e1, _⟩ := e1
          rw [← e1] at e3
          have hv' : SVsRep C w S (σ.den ρ').heap μ ((vs ++ [v']).map (SV.map (SExp.eval ρ'))) (vals ++ [u']) := by
            rw [List.map_append]
            exact hv.append (.cons _ _ _ _ e3 .nil)
          obtain ⟨vals', h2, h3⟩ := retRd_sound hS hFC hm hsg H T hl hb p2 p3 hv'
          refine ⟨u' :: vals', ?_, by rw [List.append_assoc] at h3; exact h3⟩
          rw [had, run_loadAt] at e2
          rw [List.mapM_cons]
          simp only [readRes, Sem.run_bind, Sem.run_pure, Result.andThen_ok, had, asAddr, e2, h2]
        · cases p2
      · cases p2
    · cases hs
theorem results_run {fn : Func} {tmps : Array Value} {vals : List Value} {P : Program} (h : (fn.results.toList.mapM (readRes tmps)).run P w = .ok vals w) : (results fn tmps).run P w = .ok (tupV vals) w := by
  have e : results fn tmps = (do let vs ← fn.results.mapM (readRes tmps); pure (if h : vs.size = 1 then vs[0] else .tuple vs)) := rfl
  rw [e, Array.mapM_eq_mapM_toList]
  simp only [Sem.run_bind, Sem.run_map, h, Result.andThen_ok, Sem.run_pure]
  congr 1
  match vals with
  | [] => rfl
  | [v] => rfl
  | a :: b :: l => rw [dif_neg (by simp)]; rfl
end
end Go.Fw
/- The framework, part 36: the walk over the code. -/
namespace Go.Fw
open Alg
section
variable (C : Cx) (V : Vt) (w0 : World) (S0 M0 : Nat → Prop) (bx : List (Name × Value)) (FP : Act → World → Prop) (ys : List D) (JS : List (Tree × Nat)) (js : List (JRec × List SItem)) (N : Nat)
/-- What arriving at a join or a loop's head is good for. -/
def Arr (j : Nat) (G : Act → World → Prop) : Prop := ∃ J td body base, js[j]? = some (J, td) ∧ JS[j]? = some (body, base) ∧ base = J.base ∧
  ∀ n, n < N → ∀ ρ a w, ρ.length = J.pat.m → MRep C w0 S0 M0 bx (J.pat.den ρ) a w → Ev C V n (JS.take (j + 1)) body ρ ys → G a w
/-- What is still to be done, and what it is good for. -/
inductive TdOk : List SItem → (Exit → Act → World → Prop) → Prop
  | nil {Q} (h1 : ∀ a w, FP a w → Q .normal a w) (h2 : ∀ a w, FP a w → Q .ret a w) : TdOk [] Q
  | code {c td Q} (h : TdOk td Q) : TdOk (.code c :: td) (Exit.then (c.wp C.P Q) Q)
  | block {id td Q} (h : TdOk td Q) : TdOk (.inBlock id :: td) (Exit.inBlock id Q)
  | loop {c j td Q G} (h : TdOk td Q) (hj : Arr C V w0 S0 M0 bx ys JS js N j G) : TdOk (.inLoop c j :: td) (Exit.then G Q)
  | join {j Q} (hj : Arr C V w0 S0 M0 bx ys JS js N j (Q .normal)) (h2 : ∀ a w, FP a w → Q .ret a w) : TdOk [.join j] Q
end
section
variable {C : Cx} {V : Vt} {w0 : World} {S0 M0 : Nat → Prop} {bx : List (Name × Value)} {FP : Act → World → Prop} {ys : List D} {JS : List (Tree × Nat)} {js : List (JRec × List SItem)} {N : Nat}
theorem Arr.mono {N' : Nat} (hN : N' ≤ N) (x : List (Tree × Nat)) (y : List (JRec × List SItem)) {j : Nat} {G : Act → World → Prop} (h : Arr C V w0 S0 M0 bx ys JS js N j G) : Arr C V w0 S0 M0 bx ys (JS ++ x) (js ++ y) N' j G := by
  obtain ⟨J, td, body, base, h1, h2, h3, h4⟩ := h
  have l1 := (List.getElem?_eq_some_iff.1 h1).1
  have l2 := (List.getElem?_eq_some_iff.1 h2).1
  refine ⟨J, td, body, base, by rw [List.getElem?_append_left l1]; exact h1, by rw [List.getElem?_append_left l2]; exact h2, h3, fun n hn ρ a w hr hm he => h4 n (by omega) ρ a w hr hm ?_⟩
  rwa [List.take_append_of_le_length (by omega)] at he
theorem TdOk.mono {N' : Nat} (hN : N' ≤ N) (x : List (Tree × Nat)) (y : List (JRec × List SItem)) {td : List SItem} {Q : Exit → Act → World → Prop} (h : TdOk C V w0 S0 M0 bx FP ys JS js N td Q) : TdOk C V w0 S0 M0 bx FP ys (JS ++ x) (js ++ y) N' td Q := by
  induction h with
  | nil h1 h2 => exact .nil h1 h2
  | code h ih => exact .code ih
  | block h ih => exact .block ih
  | loop h hj ih => exact .loop ih (hj.mono hN x y)
  | join hj h2 => exact .join (hj.mono hN x y) h2
theorem TdOk.ret {td : List SItem} {Q : Exit → Act → World → Prop} (h : TdOk C V w0 S0 M0 bx FP ys JS js N td Q) : ∀ a w, FP a w → Q .ret a w := by
  induction h with
  | nil h1 h2 => exact h2
  | code h ih => exact ih
  | block h ih => exact ih
  | loop h hj ih => exact ih
  | join hj h2 => exact h2
theorem TdOk.exit {id : Nat} {td : List SItem} {Q : Exit → Act → World → Prop} (h : TdOk C V w0 S0 M0 bx FP ys JS js N td Q) : ∀ {td'}, exitTo' id td = some td' → ∃ Q', TdOk C V w0 S0 M0 bx FP ys JS js N td' Q' ∧ ∀ a w, Q' .normal a w → Q (.exit id) a w := by
  induction h with
  | nil h1 h2 => intro td' he; cases he
  | code h ih => intro td' he; exact ih he
  | @block id' td Q h ih =>
    intro td' he
    simp only [exitTo'] at he
    split at he
    · rename_i e
      rw [beq_iff_eq] at e
      subst e
      injection he with he
      subst he
      exact ⟨Q, h, fun a w hq => by simp only [Exit.inBlock, if_true]; exact hq⟩
    · rename_i e
      rw [beq_iff_eq] at e
      obtain ⟨Q', h1, h2⟩ := ih he
      exact ⟨Q', h1, fun a w hq => by simp only [Exit.inBlock]; rw [if_neg (fun e' => e e'.symm)]; exact h2 a w hq⟩
  | loop h hj ih => intro td' he; exact ih he
  | join hj h2 => intro td' he; cases he
theorem ghost_m (C : Cx) (ps : List Pos) (σ : SS) : (ghost C ps σ).m = σ.m := by
  unfold ghost
  dsimp only
  induction ps generalizing σ with
  | nil => rfl
  | cons p ps ih =>
    rw [List.foldl_cons, ih]
    split
    · split
      · split <;> rfl
      · rfl
    · split <;> rfl
    · rfl
theorem jump_sound {F : FnCx} (hbx : bx.map (·.1) = F.bn) {j : Nat} {J : JRec} {σ : SS} {t : Tree} {ρ : List D} {a : Act} {w : World} (hs : symJump F.bn F.fn j J σ = .ok t) (hm : σ.m = ρ.length) (hr : MRep C w0 S0 M0 bx (σ.den ρ) a w) :
    ∃ args, t = .jump j args ∧ (ρ.take J.base ++ args.map (SExp.eval ρ)).length = J.pat.m ∧ MRep C w0 S0 M0 bx (J.pat.den (ρ.take J.base ++ args.map (SExp.eval ρ))) a w := by
  unfold symJump at hs
  obtain ⟨s1, _, hs⟩ := ok_bind hs
  obtain ⟨s2, _, hs⟩ := ok_bind hs
  dsimp only at hs
  split at hs
  · rename_i hc
    simp only [Bool.and_eq_true, decide_eq_true_eq, beq_iff_eq, List.all_eq_true] at hc
    obtain ⟨⟨hi, hb, hp⟩, hn⟩ := hc
    injection hs with hs
    refine ⟨_, hs.symm, ?_, inst_sound hi (by omega) (fun p hp' => ?_) hr⟩
    · rw [hp]
      simp
      omega
    · have := hn p.1 (by rw [← hbx]; exact List.mem_map.2 ⟨p, hp', rfl⟩)
      rw [Option.map_eq_some_iff] at this
      obtain ⟨q, h1, h2⟩ := this
      exact ⟨q.2, by rw [h1, ← h2]⟩
  · split at hs <;> cases hs
theorem least {P : Nat → Prop} (h : ∃ n, P n) : ∃ n, P n ∧ ∀ m, P m → n ≤ m := by
  obtain ⟨n, hn⟩ := h
  induction n using Nat.strongRecOn with
  | _ n ih =>
    by_cases hm : ∃ m, m < n ∧ P m
    · obtain ⟨m, h1, h2⟩ := hm
      exact ih m h1 h2
    · exact ⟨n, hn, fun m hp => by
        rcases Nat.lt_or_ge m n with h | h
        · exact absurd ⟨m, h, hp⟩ hm
        · exact h⟩
theorem sym_sound (hS : Sound C V) {F : FnCx} (hFC : F.C = C) (hbx : bx.map (·.1) = F.bn) (hFP : ∀ {σ t n js ρ a w}, symRet F σ = .ok t → Ev C V n js t ρ ys → σ.m = ρ.length → MRep C w0 S0 M0 bx (σ.den ρ) a w → FP a w) :
    ∀ (k N : Nat) (JS : List (Tree × Nat)) (js : List (JRec × List SItem)) (σ : SS) (td : List SItem) (t : Tree) (ρ : List D) (a : Act) (w : World) (Q : Exit → Act → World → Prop), sym F k js σ td = .ok t → Ev C V N JS t ρ ys → σ.m = ρ.length →
      JS.length = js.length → TdOk C V w0 S0 M0 bx FP ys JS js N td Q → MRep C w0 S0 M0 bx (σ.den ρ) a w → Q .normal a w := by
  intro k
  induction k with
  | zero => intro N JS js σ td t ρ a w Q hs; cases hs
  | succ k ih =>
    intro N JS js σ td t ρ a w Q hs he hm hJ htd hr
    have harrive : ∀ {j : Nat} {G : Act → World → Prop}, Arr C V w0 S0 M0 bx ys JS js N j G → (match js[j]? with
        | some (J, _) => symJump F.bn F.fn j J σ
        | none => .error (.bad F.fn 0 j 9)) = Except.ok t → G a w := fun {j G} hj hs => by
      obtain ⟨J, td0, body, base, h1, h2, h3, h4⟩ := hj
      rw [h1] at hs
      obtain ⟨args, rfl, e1, e2⟩ := jump_sound hbx hs hm hr
      cases he with
      | jump hj' he' =>
      rw [h2] at hj'
      injection hj' with hj'
      simp only [Prod.mk.injEq] at hj'
      obtain ⟨rfl, rfl⟩ := hj'
      rw [h3] at he'
      exact h4 _ (Nat.lt_succ_self _) _ a w e1 e2 he'
    match td, htd, hs with
    | [], htd, hs =>
      cases htd with
      | nil h1 h2 => exact h1 a w (hFP (by simpa only [sym] using hs) he hm hr)
    | .inBlock id :: td, htd, hs =>
      cases htd with
      | block h =>
      rename_i Q
      exact ih N JS js σ td t ρ a w Q (by simpa only [sym] using hs) he hm hJ h hr
    | .inLoop c j :: td, htd, hs =>
      cases htd with
      | loop h hj =>
      simp only [sym] at hs
      exact harrive hj hs
    | .join j :: td, htd, hs =>
      cases htd with
      | join hj h2 =>
      simp only [sym] at hs
      exact harrive hj hs
    | .code c :: td, htd, hs =>
      cases htd with
      | code h =>
      rename_i Q
      show c.wp C.P Q a w
      have hret : symRet F σ = .ok t → Q .ret a w := fun hs => h.ret a w (hFP hs he hm hr)
      cases c with
      | skip =>
        simp only [sym] at hs
        exact wp_skip (ih N JS js σ td t ρ a w Q hs he hm hJ h hr)
      | seq x y =>
        simp only [sym] at hs
        exact wp_seq (ih N JS js σ _ t ρ a w _ hs he hm hJ (.code (.code h)) hr)
      | block id x =>
        simp only [sym] at hs
        exact wp_block (ih N JS js σ _ t ρ a w _ hs he hm hJ (.code (.block h)) hr)
      | exit id =>
        simp only [sym] at hs
        split at hs
        · rename_i td' hx
          obtain ⟨Q', h1, h2⟩ := h.exit hx
          exact wp_exit (h2 a w (ih N JS js σ td' t ρ a w Q' hs he hm hJ h1 hr))
        · cases hs
      | ret =>
        simp only [sym] at hs
        exact wp_ret (hret hs)
      | region id ops draw =>
        simp only [sym] at hs
        split at hs
        · rename_i hst
          rw [hFC] at hs
          exact region_sound hS (kk := fun σ' => sym F k js σ' td) (Q := Q) (fun σ' ρ' t' a' w' h1 h2 h3 h4 => ih N JS js σ' td t' ρ' a' w' Q h1 h2 h3 hJ h h4) hs he hm hst hr
        · cases hs
      | cond c x y =>
        simp only [sym] at hs
        split at hs
        · rename_i e hc
          obtain ⟨hd, S, μ, H, T, B⟩ := hr
          have hev : ∃ b, e.eval ρ = .bool b ∧ a.eval c = .bool b := by
            have h1 : (rdOpd (σ.den ρ).tmps c).bind one? = some (.c (.d .bool (e.eval ρ))) := by
              have := nd_rdOpd (evalHom ρ) σ.tmps c
              show (rdOpd (σ.tmps.map (TV.map (SExp.eval ρ))) c).bind one? = _
              rw [this]
              rw [Option.bind_eq_some_iff] at hc
              obtain ⟨tv, h1, h2⟩ := hc
              rw [h1]
              simp only [Option.map_some, Option.bind_some]
              rw [nd_one?, h2]
              rfl
            have h2 := opd_rep T h1
            obtain ⟨b, e1, e2⟩ := h2.boolv
            exact ⟨b, e1, e2⟩
          have hr : MRep C w0 S0 M0 bx (σ.den ρ) a w := ⟨hd, S, μ, H, T, B⟩
          obtain ⟨b, hb1, hb2⟩ := hev
          split at hs
          · rename_i b'
            have : b' = b := by injection hb1
            subst this
            refine wp_cond hb2 ?_
            have := ih N JS js σ _ t ρ a w _ hs he hm hJ (.code (c := if b' then x else y) h) hr
            exact this
          · split at hs
            · rename_i key ps hkey
              obtain ⟨body, hbody, hs⟩ := ok_bind hs
              obtain ⟨x1, hx1, hs⟩ := ok_bind hs
              obtain ⟨x2, hx2, hs⟩ := ok_bind hs
              injection hs with hs
              subst hs
              cases he with
              | join he =>
              have hg : MRep C w0 S0 M0 bx ((ghost F.C ps σ).den ρ) a w := by rw [hFC]; exact ghost_sound ps hr
              have hgm : (ghost F.C ps σ).m = ρ.length := by rw [ghost_m]; exact hm
              have htd' : ∀ N' y, N' ≤ N → TdOk C V w0 S0 M0 bx FP ys (JS ++ [(body, ρ.length)]) (js ++ y) N' td Q := fun N' y hN => h.mono hN _ y
              have harr : Arr C V w0 S0 M0 bx ys (JS ++ [(body, ρ.length)]) (js ++ [((⟨1000000 + key, ghost F.C ps σ, (mkPat (dsts x ++ dsts y) ps (ghost F.C ps σ)).1, (ghost F.C ps σ).m, (mkPat (dsts x ++ dsts y) ps (ghost F.C ps σ)).2⟩ : JRec), td)]) N js.length (Q .normal) := by
                refine ⟨_, td, body, ρ.length, List.getElem?_concat_length, by rw [← hJ]; simp, hgm.symm, fun n hn ρ' a' w' hl hm' he' => ?_⟩
                rw [List.take_of_length_le (by simp [hJ])] at he'
                exact ih n _ _ _ td body ρ' a' w' Q hbody he' hl.symm (by simp [hJ]) (htd' n _ (Nat.le_of_lt hn)) hm'
              cases he with
              | iteT hc' he =>
                have : b = true := by rw [hb1] at hc'; injection hc'
                subst this
                refine wp_cond_true hb2 ?_
                have := ih N _ _ _ [.code x, .join js.length] x1 ρ a w _ hx1 he hgm (by simp [hJ]) (.code (.join harr h.ret)) hg
                exact this
              | iteF hc' he =>
                have : b = false := by rw [hb1] at hc'; injection hc'
                subst this
                refine wp_cond_false hb2 ?_
                have := ih N _ _ _ [.code y, .join js.length] x2 ρ a w _ hx2 he hgm (by simp [hJ]) (.code (.join harr h.ret)) hg
                exact this
            · obtain ⟨x1, hx1, hs⟩ := ok_bind hs
              obtain ⟨x2, hx2, hs⟩ := ok_bind hs
              injection hs with hs
              subst hs
              cases he with
              | iteT hc' he =>
                have : b = true := by rw [hb1] at hc'; injection hc'
                subst this
                refine wp_cond_true hb2 ?_
                have := ih N JS js σ _ x1 ρ a w _ hx1 he hm hJ (.code (c := x) h) hr
                exact this
              | iteF hc' he =>
                have : b = false := by rw [hb1] at hc'; injection hc'
                subst this
                refine wp_cond_false hb2 ?_
                have := ih N JS js σ _ x2 ρ a w _ hx2 he hm hJ (.code (c := y) h) hr
                exact this
        · cases hs
      | loop x =>
        simp only [sym] at hs
        generalize hps : ((F.hints.find? fun h => h.1 == (keyOf x).getD 0).map (·.2)).getD [] = ps at hs
        generalize hkey : (keyOf x).getD 0 = key at hs
        obtain ⟨entry, hentry, hs⟩ := ok_bind hs
        obtain ⟨body, hbody, hs⟩ := ok_bind hs
        injection hs with hs
        subst hs
        cases he with
        | join he =>
        have hg : MRep C w0 S0 M0 bx ((ghost F.C ps σ).den ρ) a w := by rw [hFC]; exact ghost_sound ps hr
        have hgm : (ghost F.C ps σ).m = ρ.length := by rw [ghost_m]; exact hm
        obtain ⟨args, rfl, e1, e2⟩ := jump_sound hbx hentry hgm hg
        generalize hJR : (⟨key, ghost F.C ps σ, (mkPat (dsts x) ps (ghost F.C ps σ)).1, (ghost F.C ps σ).m, (mkPat (dsts x) ps (ghost F.C ps σ)).2⟩ : JRec) = J at *
        have hpat : (mkPat (dsts x) ps (ghost F.C ps σ)).1 = J.pat := by rw [← hJR]
        have hbase : ρ.length = J.base := by rw [← hJR]; exact hgm.symm
        rw [hpat] at hbody
        cases he with
        | jump hj' he' =>
        rename_i n0 body' base'
        have hj2 : (JS ++ [(body, ρ.length)])[js.length]? = some (body, ρ.length) := by rw [← hJ]; simp
        rw [hj2] at hj'
        injection hj' with hj'
        simp only [Prod.mk.injEq] at hj'
        obtain ⟨rfl, rfl⟩ := hj'
        rw [List.take_of_length_le (by simp [hJ])] at he'
        have he' : Ev C V n0 (JS ++ [(body, ρ.length)]) body (ρ.take J.base ++ args.map (SExp.eval ρ)) ys := by rw [← hbase]; exact he'
        let PP : Act → World → Nat → Prop := fun a w n => n < n0 + 1 ∧ ∃ ρ', ρ'.length = J.pat.m ∧ MRep C w0 S0 M0 bx (J.pat.den ρ') a w ∧ Ev C V n (JS ++ [(body, ρ.length)]) body ρ' ys
        let I : Act → World → Prop := fun a w => ∃ n, PP a w n
        have hmu : ∀ a w, ∃ m, I a w → PP a w m ∧ ∀ n, PP a w n → m ≤ n := fun a w => by
          by_cases hI : I a w
          · obtain ⟨m, h1, h2⟩ := least hI
            exact ⟨m, fun _ => ⟨h1, h2⟩⟩
          · exact ⟨0, fun h => absurd h hI⟩
        refine wp_loop (Q := Q) I (fun a w => Classical.choose (hmu a w)) ⟨n0, Nat.lt_succ_self _, _, e1, e2, he'⟩ fun a1 w1 hI => ?_
        obtain ⟨⟨hlt, ρ1, hl1, hm1, he1⟩, _⟩ := Classical.choose_spec (hmu a1 w1) hI
        refine ih (Classical.choose (hmu a1 w1)) (JS ++ [(body, ρ.length)]) (js ++ [(J, [])]) J.pat (.code x :: .inLoop x js.length :: td) body ρ1 a1 w1
          (Exit.then (x.wp C.P (Exit.then (fun a' w' => I a' w' ∧ Classical.choose (hmu a' w') < Classical.choose (hmu a1 w1)) Q)) (Exit.then (fun a' w' => I a' w' ∧ Classical.choose (hmu a' w') < Classical.choose (hmu a1 w1)) Q)) hbody he1 hl1.symm (by simp [hJ]) ?_ hm1
        refine .code (.loop (h.mono (Nat.le_of_lt hlt) _ _) ⟨J, [], body, ρ.length, by simp, hj2, hbase, fun n hn ρ' a' w' hl' hm' he'' => ?_⟩)
        rw [List.take_of_length_le (by simp [hJ])] at he''
        have hP : PP a' w' n := ⟨by omega, ρ', hl', hm', he''⟩
        have hI' : I a' w' := ⟨n, hP⟩
        exact ⟨hI', Nat.lt_of_le_of_lt ((Classical.choose_spec (hmu a' w') hI').2 n hP) hn⟩
      | label l => simp only [sym] at hs; cases hs
      | goto l => simp only [sym] at hs; cases hs
      | scope x => simp only [sym] at hs; cases hs
      | rangeFunc => simp only [sym] at hs; cases hs
      | refuse => simp only [sym] at hs; cases hs
end
end Go.Fw
/- The framework, part 37: a function's tree is its contract. -/
namespace Go.Fw
open Alg
def RK.cells : RK → Nat
  | .val _ cs => cs.length
  | .newbox _ cs => cs.length
theorem resBack_val {X : Type} {nm : Nat → Name} {agg : Bool} {ocs : List (Ty × Bool)} {rs : List RK} {q : Nat} {xs : List X} {vs : List (SV X)} {u : Upd X} {rest : List X} (h : resBack nm q (.val agg ocs :: rs) xs = some (vs, u, rest)) :
    ¬ xs.length < ocs.length ∧ ∃ v vs' us, resBack nm (q + 1000) rs (xs.drop ocs.length) = some (vs', us, rest) ∧ vs = v :: vs' := by
  simp only [resBack] at h
  by_cases hl : xs.length < ocs.length
  · rw [if_pos hl] at h; cases h
  · rw [if_neg hl] at h
    refine ⟨hl, ?_⟩
    have key : ∀ v : SV X, ((resBack nm (q + 1000) rs (xs.drop ocs.length)).bind fun x => some (v :: x.1, (cellsBack nm q ocs (xs.take ocs.length)).2 ++ x.2.1, x.2.2)) = some (vs, u, rest) → ∃ v vs' us, resBack nm (q + 1000) rs (xs.drop ocs.length) = some (vs', us, rest) ∧ vs = v :: vs' := fun v hv => by
      rw [Option.bind_eq_some_iff] at hv
      obtain ⟨⟨vs', us, rest'⟩, h1, h2⟩ := hv
      simp only [Option.some.injEq, Prod.mk.injEq] at h2
      obtain ⟨rfl, _, rfl⟩ := h2
      exact ⟨v, vs', us, h1, rfl⟩
    cases agg with
    | true => exact key _ h
    | false =>
      rw [if_neg (by simp)] at h
      split at h
      · exact key _ h
      · cases h
theorem resBack_new {X : Type} {nm : Nat → Name} {T : Nat} {ocs : List (Ty × Bool)} {rs : List RK} {q : Nat} {xs : List X} {vs : List (SV X)} {u : Upd X} {rest : List X} (h : resBack nm q (.newbox T ocs :: rs) xs = some (vs, u, rest)) :
    ¬ xs.length < ocs.length ∧ ∃ vs' us, resBack nm (q + 1000) rs (xs.drop ocs.length) = some (vs', us, rest) ∧ vs = .ref (nm q) 0 :: vs' := by
  simp only [resBack] at h
  by_cases hl : xs.length < ocs.length
  · rw [if_pos hl] at h; cases h
  · rw [if_neg hl] at h
    refine ⟨hl, ?_⟩
    simp only [Option.bind_eq_bind, Option.bind_eq_some_iff, Option.pure_def, Option.some.injEq] at h
    obtain ⟨⟨vs', us, rest'⟩, h1, h2⟩ := h
    simp only [Prod.mk.injEq] at h2
    obtain ⟨rfl, _, rfl⟩ := h2
    exact ⟨vs', us, h1, rfl⟩
theorem resBack_len {X : Type} {nm : Nat → Name} : ∀ {rs : List RK} {q : Nat} {xs : List X} {vs : List (SV X)} {u : Upd X} {rest : List X}, resBack nm q rs xs = some (vs, u, rest) → xs.length = (rs.map RK.cells).sum + rest.length ∧ vs.length = rs.length
  | [], q, xs, vs, u, rest, h => by
    simp only [resBack, Option.some.injEq, Prod.mk.injEq] at h
    obtain ⟨rfl, rfl, rfl⟩ := h
    simp
  | .val agg ocs :: rs, q, xs, vs, u, rest, h => by
    obtain ⟨hl, v, vs', us, h2, rfl⟩ := resBack_val h
    obtain ⟨a, b⟩ := resBack_len h2
    simp only [List.length_drop] at a
    simp only [List.map_cons, List.sum_cons, RK.cells, List.length_cons, b]
    exact ⟨by omega, trivial⟩
  | .newbox T ocs :: rs, q, xs, vs, u, rest, h => by
    obtain ⟨hl, vs', us, h2, rfl⟩ := resBack_new h
    obtain ⟨a, b⟩ := resBack_len h2
    simp only [List.length_drop] at a
    simp only [List.map_cons, List.sum_cons, RK.cells, List.length_cons, b]
    exact ⟨by omega, trivial⟩
theorem box_entry {C : Cx} {w : World} {S : Nat → Prop} {h : Hp} {μ : Mu} : ∀ {ps : List PK} {i : Nat} {xs : List D} {vs : List (SV D)} {u : Upd D} {rest : List D} {cargs : List Value}, resBack nmE (1000 * i) (ps.map PK.asRK) xs = some (vs, u, rest) →
    SVsRep C w S h μ vs cargs → (boxNames i ps).length = (boxVals ps cargs).length ∧ ∀ p ∈ (boxNames i ps).zip (boxVals ps cargs), ∃ blk, isBox h μ p.1 blk ∧ p.2 = .pointer (some ⟨blk, 0, none⟩)
  | [], i, xs, vs, u, rest, cargs, hb, hv => by
    simp [boxNames, boxVals]
  | .val agg ocs :: ps, i, xs, vs, u, rest, cargs, hb, hv => by
    obtain ⟨hl, v, vs', us, h2, rfl⟩ := resBack_val hb
    cases hv with
    | cons _ _ va vals hx hs =>
    rw [show 1000 * i + 1000 = 1000 * (i + 1) by omega] at h2
    exact box_entry (i := i + 1) h2 hs
  | .box T ocs :: ps, i, xs, vs, u, rest, cargs, hb, hv => by
    obtain ⟨hl, vs', us, h2, rfl⟩ := resBack_new hb
    cases hv with
    | cons _ _ va vals hx hs =>
    rw [show 1000 * i + 1000 = 1000 * (i + 1) by omega] at h2
    obtain ⟨a, b⟩ := box_entry (i := i + 1) h2 hs
    cases hx with
    | ref _ _ blk hb =>
    refine ⟨by simp [boxNames, boxVals, a], fun p hp => ?_⟩
    simp only [boxNames, boxVals, List.zip_cons_cons, List.mem_cons] at hp
    rcases hp with rfl | hp
    · exact ⟨blk, hb, rfl⟩
    · exact b p hp
theorem symFn_sound {C : Cx} {V : Vt} (hS : Sound C V) {hints : List (Nat × List Pos)} {f : Nat} {t : Tree} (h : symFn C hints f = .ok t) {n : Nat} {xs ys : List D} (he : Ev C V n [] t xs ys) : CallOk C f xs ys := by
  intro sg hsg
  unfold symFn at h
  rw [hsg] at h
  split at h
  · rename_i fn sg' hf hsg'
    injection hsg' with hsg'
    subst hsg'
    dsimp only at h
    split at h
    · rename_i c vs u hbody hrb
      split at h
      · rename_i hc
        simp only [Bool.and_eq_true, decide_eq_true_eq, bne_iff_ne, ne_eq] at hc
        obtain ⟨hnt, hname⟩ := hc
        refine ⟨fun args w => ?_, fun vs' u' hvs w S μ cargs H hv => ?_⟩
        · unfold callFunc
          have hb : fn.body.isNone = false := by rw [hbody]; rfl
          simp only [Sem.run_bind, run_program, Result.andThen_ok, hf, hb, beq_iff_eq, hname, if_false, Bool.false_eq_true, Sem.run_pure]
        · generalize hk : (sg.params.map fun | .val _ cs => cs.length | .box _ cs => cs.length).sum = k at *
          have hk' : (List.map RK.cells (sg.params.map PK.asRK)).sum = k := by
            rw [← hk, List.map_map]
            congr 1
            apply List.map_congr_left
            intro p _
            cases p <;> rfl
          obtain ⟨l1, l2⟩ := resBack_len hvs
          rw [hk'] at l1
          simp only [List.length_nil, Nat.add_zero] at l1
          have hmap : (vars 0 k).map (SExp.eval xs) = xs := by
            have := vars_eval [] xs (ρ' := xs) (List.prefix_refl _)
            rw [← l1]
            exact this
          have hnd := nd_resBack (evalHom xs) nmE (sg.params.map PK.asRK) 0 (vars 0 k)
          rw [hmap, hvs, hrb] at hnd
          simp only [Option.map_some, Option.some.injEq, Prod.mk.injEq] at hnd
          obtain ⟨rfl, rfl, _⟩ := hnd
          obtain ⟨b1, b2⟩ := box_entry (i := 0) hvs hv
          have hcl : cargs.length = sg.params.length := by
            have : ∀ {xs : List (SV D)} {vs : List Value} {h : Hp}, SVsRep C w S h μ xs vs → vs.length = xs.length := fun {xs vs h} hh => by
              induction hh with
              | nil => rfl
              | cons _ _ _ _ _ _ ih => simp [ih]
            rw [this hv, l2, List.length_map]
          have hheap : (SS.den ⟨vs.map .one ++ List.replicate (fn.ntmps - sg.params.length) skipTV, hputs [] u, 1, k⟩ xs).heap = Upd.ap (Upd.map (SExp.eval xs) u) hN := by
            simp only [SS.den]
            rw [hget_puts (SExp.eval xs) u []]
            rfl
          refine calls_of_wp hf hbody ?_
          refine sym_sound hS (F := ⟨C, f, fn.results.toList, sg, hints⟩) rfl (bx := (boxNames 0 sg.params).zip (boxVals sg.params cargs)) (w0 := w) (S0 := S) (M0 := Mof (Upd.ap (Upd.map (SExp.eval xs) u) hN) μ) (ys := ys)
            (FP := bodyPost C.P fn _ .normal) ?_ (fun {σ t n js ρ a w'} hs he hm hr => ?_) 100000 n [] [] _ [.code c] t xs _ w (Exit.then (c.wp C.P (bodyPost C.P fn _)) (bodyPost C.P fn _)) h he l1.symm rfl (.code (.nil (fun _ _ h => h) (fun _ _ h => h))) ⟨rfl, S, μ, ?_, ⟨?_, fun i tv hi => ?_⟩, ?_⟩
          · show List.map (fun p : Name × Value => p.1) _ = boxNames 0 sg.params
            exact List.map_fst_zip (Nat.le_of_eq b1)
          · have hr := ghost_sound (retPos ⟨C, f, fn.results.toList, sg, hints⟩ σ) hr
            have hm := (ghost_m C (retPos ⟨C, f, fn.results.toList, sg, hints⟩ σ) σ).trans hm
            obtain ⟨hd, S', μ', H', T', B'⟩ := hr
            obtain ⟨vals', r1, r2⟩ := retRd_sound hS (F := ⟨C, f, fn.results.toList, sg, hints⟩) rfl hm (hS.hS f sg hsg) H' T' (bvals := boxVals sg.params cargs) b1 B' (vals := []) hs he .nil
            rw [List.nil_append] at r2
            obtain ⟨S2, μ2, h2, nss, q1, q2, q3, q4⟩ := r2
            exact ⟨hd, _, results_run r1, vals', S2, μ2, h2, nss, rfl, q1, q2, q3, q4⟩
          · rw [hheap]; exact H
          · simp only [SS.den, List.length_map, List.length_append, List.length_replicate, Array.size_append, List.size_toArray, Array.size_replicate, hcl]
            rw [List.length_map, List.length_map] at l2
            omega
          · simp only [SS.den, List.map_append, List.map_replicate, List.map_map] at hi
            rw [hheap]
            rw [List.length_map, List.length_map] at l2
            rw [Array.getD_eq_getD_getElem?]
            by_cases hlt : i < vs.length
            · rw [List.getElem?_append_left (by simpa using hlt), List.getElem?_map] at hi
              rw [Option.map_eq_some_iff] at hi
              obtain ⟨v, hv1, rfl⟩ := hi
              obtain ⟨uu, hu1, hu2⟩ := svs_at hv (i := i) (y := v.map (SExp.eval xs)) (by rw [List.getElem?_map, hv1]; rfl)
              rw [Array.getElem?_append_left (by simp; omega), List.getElem?_toArray, hu1]
              exact .one _ _ hu2
            · rw [List.getElem?_append_right (by simpa using hlt)] at hi
              rw [List.getElem?_replicate] at hi
              split at hi
              · injection hi with hi
                subst hi
                rw [Array.getElem?_append_right (by simp; omega), Array.getElem?_replicate]
                have : (Option.getD (if i - cargs.toArray.size < fn.ntmps - cargs.toArray.size then some undef else none) undef) = undef := by split <;> rfl
                rw [this]
                exact .tup [] [] .nil
              · cases hi
          · rw [hheap]; exact b2
      · cases h
    · cases h
  · cases h

/-! ### the knot -/
section
variable {C : Cx} {V V' : Vt}
theorem Ev.det {n : Nat} {js : List (Tree × Nat)} {t : Tree} {ρ ys : List D} (h : Ev C V n js t ρ ys) : ∀ {m : Nat} {ys' : List D}, Ev C V m js t ρ ys' → ys = ys' := by
  induction h with
  | ret es => intro m ys' h'; cases h'; rfl
  | iteT hc _ ih =>
    intro m ys' h'
    cases h' with
    | iteT _ h' => exact ih h'
    | iteF hc' _ => rw [hc] at hc'; cases hc'
  | iteF hc _ ih =>
    intro m ys' h'
    cases h' with
    | iteT hc' _ => rw [hc] at hc'; cases hc'
    | iteF _ h' => exact ih h'
  | guard hc _ ih => intro m ys' h'; cases h' with | guard _ h' => exact ih h'
  | call hV hl _ ih =>
    intro m ys' h'
    cases h' with
    | call hV' _ h' => rw [hV] at hV'; injection hV' with e; subst e; exact ih h'
  | callv hx hs hV hl _ ih =>
    intro m ys' h'
    cases h' with
    | callv hx' _ hV' _ h' =>
      rw [hx] at hx'
      injection hx' with e1 e2 e3
      subst e1 e2 e3
      rw [hV] at hV'
      injection hV' with e
      subst e
      exact ih h'
  | join _ ih => intro m ys' h'; cases h' with | join h' => exact ih h'
  | jump hj _ ih =>
    intro m ys' h'
    cases h' with
    | jump hj' h' =>
      rw [hj] at hj'
      injection hj' with e
      injection e with e1 e2
      subst e1 e2
      exact ih h'
  | any _ _ ih _ => intro m ys' h'; cases h' with | any h' _ => exact ih h'
theorem Ev.mono (hV : ∀ f xs ys, V f xs = some ys → V' f xs = some ys) {n : Nat} {js : List (Tree × Nat)} {t : Tree} {ρ ys : List D} (h : Ev C V n js t ρ ys) : ∀ {n' : Nat}, n ≤ n' → Ev C V' n' js t ρ ys := by
  induction h with
  | ret es => intro n' _; exact .ret es
  | iteT hc _ ih => intro n' hn; exact .iteT hc (ih hn)
  | iteF hc _ ih => intro n' hn; exact .iteF hc (ih hn)
  | guard hc _ ih => intro n' hn; exact .guard hc (ih hn)
  | call h1 hl _ ih => intro n' hn; exact .call (hV _ _ _ h1) hl (ih hn)
  | callv hx hs h1 hl _ ih => intro n' hn; exact .callv hx hs (hV _ _ _ h1) hl (ih hn)
  | join _ ih => intro n' hn; exact .join (ih hn)
  | jump hj _ ih =>
    intro n' hn
    obtain ⟨m, rfl⟩ : ∃ m, n' = m + 1 := ⟨n' - 1, by omega⟩
    exact .jump hj (ih (by omega))
  | any _ _ ih1 ih2 => intro n' hn; exact .any (ih1 hn) (ih2 hn)
end
open Classical in
/-- What functions return, for calls nested up to a depth. -/
noncomputable def Vn (C : Cx) (T : Nat → Option Tree) (nat : Vt) : Nat → Vt
  | 0 => nat
  | n + 1 => fun f xs => match nat f xs with
    | some ys => some ys
    | none => if h : ∃ ys t, T f = some t ∧ Ev C (Vn C T nat n) n [] t xs ys then some (Classical.choose h) else none
section
variable {C : Cx} {T : Nat → Option Tree} {nat : Vt}
theorem Vn_spec {n f : Nat} {xs ys : List D} (h : Vn C T nat (n + 1) f xs = some ys) : nat f xs = some ys ∨ nat f xs = none ∧ ∃ t, T f = some t ∧ Ev C (Vn C T nat n) n [] t xs ys := by
  simp only [Vn] at h
  split at h
  · rename_i ys' hn
    injection h with h
    subst h
    exact .inl hn
  · rename_i hn
    split at h
    · rename_i hx
      injection h with h
      subst h
      exact .inr ⟨hn, Classical.choose_spec hx⟩
    · cases h
theorem Vn_intro {n f : Nat} {xs ys : List D} (hn : nat f xs = none) {t : Tree} (ht : T f = some t) (he : Ev C (Vn C T nat n) n [] t xs ys) : Vn C T nat (n + 1) f xs = some ys := by
  have hx : ∃ ys t, T f = some t ∧ Ev C (Vn C T nat n) n [] t xs ys := ⟨ys, t, ht, he⟩
  simp only [Vn, hn]
  rw [dif_pos hx]
  obtain ⟨t', ht', he'⟩ := Classical.choose_spec hx
  rw [ht] at ht'
  injection ht' with ht'
  subst ht'
  rw [he.det he']
theorem Vn_succ : ∀ {n f : Nat} {xs ys : List D}, Vn C T nat n f xs = some ys → Vn C T nat (n + 1) f xs = some ys
  | 0, f, xs, ys, h => by
    have h : nat f xs = some ys := h
    simp only [Vn, h]
  | n + 1, f, xs, ys, h => by
    rcases Vn_spec h with h | ⟨hn, t, ht, he⟩
    · simp only [Vn, h]
    · exact Vn_intro hn ht (he.mono (fun _ _ _ => Vn_succ) (Nat.le_succ _))
theorem Vn_le {n m : Nat} (h : n ≤ m) {f : Nat} {xs ys : List D} (hv : Vn C T nat n f xs = some ys) : Vn C T nat m f xs = some ys := by
  induction h with
  | refl => exact hv
  | step _ ih => exact Vn_succ ih
/-- What the tables have to be. -/
structure Base (C : Cx) (T : Nat → Option Tree) (nat : Vt) : Prop where
  hC : C.ok
  hZ : C.zok
  hK : C.tok
  hS : ∀ f sg, C.sig f = some sg → sg.ok C
  hI : C.sig isNilF = none
  hM : C.P.follows .mixedOrders = true
  hT : ∀ f t, T f = some t → ∃ hints, symFn C hints f = .ok t
  hn : ∀ f xs ys, nat f xs = some ys → CallOk C f xs ys ∧ T f = none ∧ f ≠ isNilF
theorem Vn_sound (hB : Base C T nat) : ∀ n, Sound C (Vn C T nat n)
  | 0 => ⟨hB.hC, hB.hZ, hB.hK, hB.hS, hB.hI, hB.hM, fun f xs ys h => (hB.hn f xs ys h).1, fun xs => by
      cases h : Vn C T nat 0 isNilF xs with
      | none => rfl
      | some ys => exact absurd rfl (hB.hn _ _ _ h).2.2⟩
  | n + 1 => by
    have hs := Vn_sound hB n
    refine ⟨hB.hC, hB.hZ, hB.hK, hB.hS, hB.hI, hB.hM, fun f xs ys h => ?_, fun xs => ?_⟩
    · rcases Vn_spec h with h | ⟨_, t, ht, he⟩
      · exact (hB.hn f xs ys h).1
      · obtain ⟨hints, hh⟩ := hB.hT f t ht
        exact symFn_sound hs hh he
    · cases h : Vn C T nat (n + 1) isNilF xs with
      | none => rfl
      | some ys =>
        rcases Vn_spec h with h | ⟨_, t, ht, he⟩
        · exact absurd rfl (hB.hn _ _ _ h).2.2
        · obtain ⟨hints, hh⟩ := hB.hT _ t ht
          unfold symFn at hh
          rw [hB.hI] at hh
          split at hh
          · rename_i h1 h2; cases h2
          · cases hh
/-- What a tree comes to, calls followed. -/
inductive EvU (C : Cx) (T : Nat → Option Tree) (nat : Vt) : List (Tree × Nat) → Tree → List D → List D → Prop
  | ret {js ρ} (es : List SExp) : EvU C T nat js (.ret es) ρ (es.map (·.eval ρ))
  | iteT {js ρ ys c a b} (hc : c.eval ρ = .bool true) (h : EvU C T nat js a ρ ys) : EvU C T nat js (.ite c a b) ρ ys
  | iteF {js ρ ys c a b} (hc : c.eval ρ = .bool false) (h : EvU C T nat js b ρ ys) : EvU C T nat js (.ite c a b) ρ ys
  | guard {js ρ ys c k} (hc : c.eval ρ = .bool true) (h : EvU C T nat js k ρ ys) : EvU C T nat js (.guard c k) ρ ys
  | call {js ρ ys f args m k zs t} (hT : T f = some t) (hb : EvU C T nat [] t (args.map (·.eval ρ)) zs) (hl : zs.length = m) (h : EvU C T nat js k (ρ ++ zs) ys) : EvU C T nat js (.call f args m k) ρ ys
  | callN {js ρ ys f args m k zs} (hN : nat f (args.map (·.eval ρ)) = some zs) (hl : zs.length = m) (h : EvU C T nat js k (ρ ++ zs) ys) : EvU C T nat js (.call f args m k) ρ ys
  | callv {js ρ ys s x args m k zs f tys caps t} (hx : x.eval ρ = .fn f tys caps) (hs : C.sig f = some { s with params := s.params ++ tys.map fun t => .val false [(t, false)] })
      (hT : T f = some t) (hb : EvU C T nat [] t (args.map (·.eval ρ) ++ caps) zs) (hl : zs.length = m) (h : EvU C T nat js k (ρ ++ zs) ys) : EvU C T nat js (.callv s x args m k) ρ ys
  | join {js ρ ys m body rest} (h : EvU C T nat (js ++ [(body, ρ.length)]) rest ρ ys) : EvU C T nat js (.join m body rest) ρ ys
  | jump {js ρ ys j args body base} (hj : js[j]? = some (body, base)) (h : EvU C T nat (js.take (j + 1)) body (ρ.take base ++ args.map (·.eval ρ)) ys) : EvU C T nat js (.jump j args) ρ ys
  | any {js ρ ys k} (hT : EvU C T nat js k (ρ ++ [.bool true]) ys) (hF : EvU C T nat js k (ρ ++ [.bool false]) ys) : EvU C T nat js (.any k) ρ ys
theorem EvU.ev (hn : ∀ f xs ys, nat f xs = some ys → T f = none) {js : List (Tree × Nat)} {t : Tree} {ρ ys : List D} (h : EvU C T nat js t ρ ys) : ∃ n, Ev C (Vn C T nat n) n js t ρ ys := by
  have hnone : ∀ {f : Nat} {t : Tree} (xs : List D), T f = some t → nat f xs = none := fun {f t} xs ht => by
    cases h : nat f xs with
    | none => rfl
    | some ys => rw [hn f xs ys h] at ht; cases ht
  have up : ∀ {n m : Nat} {js : List (Tree × Nat)} {t : Tree} {ρ ys : List D}, n ≤ m → Ev C (Vn C T nat n) n js t ρ ys → Ev C (Vn C T nat m) m js t ρ ys := fun hl he => he.mono (fun _ _ _ => Vn_le hl) hl
  induction h with
  | ret es => exact ⟨0, .ret es⟩
  | iteT hc _ ih => obtain ⟨n, h⟩ := ih; exact ⟨n, .iteT hc h⟩
  | iteF hc _ ih => obtain ⟨n, h⟩ := ih; exact ⟨n, .iteF hc h⟩
  | guard hc _ ih => obtain ⟨n, h⟩ := ih; exact ⟨n, .guard hc h⟩
  | call hT _ hl _ ih1 ih2 =>
    obtain ⟨n1, h1⟩ := ih1
    obtain ⟨n2, h2⟩ := ih2
    refine ⟨n1 + 1 + n2, .call (Vn_le (Nat.le_add_right _ _) (Vn_intro (hnone _ hT) hT h1)) hl (up (by omega) h2)⟩
  | callN hN hl _ ih =>
    obtain ⟨n, h⟩ := ih
    exact ⟨n, .call (Vn_le (Nat.zero_le _) hN) hl h⟩
  | callv hx hs hT _ hl _ ih1 ih2 =>
    obtain ⟨n1, h1⟩ := ih1
    obtain ⟨n2, h2⟩ := ih2
    refine ⟨n1 + 1 + n2, .callv hx hs (Vn_le (Nat.le_add_right _ _) (Vn_intro (hnone _ hT) hT h1)) hl (up (by omega) h2)⟩
  | join _ ih => obtain ⟨n, h⟩ := ih; exact ⟨n, .join h⟩
  | jump hj _ ih => obtain ⟨n, h⟩ := ih; exact ⟨n + 1, .jump hj (h.mono (fun _ _ _ => Vn_succ) (Nat.le_refl _))⟩
  | any _ _ ih1 ih2 =>
    obtain ⟨n1, h1⟩ := ih1
    obtain ⟨n2, h2⟩ := ih2
    exact ⟨n1 + n2, .any (up (by omega) h1) (up (by omega) h2)⟩
/-- A function that comes to something returns it, on the machine. -/
theorem callOk (hB : Base C T nat) {f : Nat} {t : Tree} (ht : T f = some t) {xs ys : List D} (h : EvU C T nat [] t xs ys) : CallOk C f xs ys := by
  obtain ⟨n, he⟩ := h.ev fun f xs ys h => (hB.hn f xs ys h).2.1
  obtain ⟨hints, hh⟩ := hB.hT f t ht
  exact symFn_sound (Vn_sound hB n) hh he
end
end Go.Fw
/- The framework, part 38: tables by lists, and their check. -/
namespace Go.Fw
def lookL {A : Type} (l : List (Nat × A)) (k : Nat) : Option A := (l.find? fun p => p.1 == k).map (·.2)
theorem lookL_mem {A : Type} {l : List (Nat × A)} {k : Nat} {a : A} (h : lookL l k = some a) : (k, a) ∈ l := by
  unfold lookL at h
  rw [Option.map_eq_some_iff] at h
  obtain ⟨p, hp, rfl⟩ := h
  have h1 := List.find?_some hp
  rw [beq_iff_eq] at h1
  subst h1
  exact List.mem_of_find?_eq_some hp
def chkT (C : Cx) (t : Nat) (ts : List Ty) : Bool :=
  sizes C ts == C.P.cellsOf t && (C.P.info? t).isSome && (C.P.underlying t).isSome && (C.isAgg t || sizes C ts == 1) &&
  (match C.P.info? t with
    | some i => match i.zero with
      | some z => match zmRow (zm C 4) ts z.cells.toList with
        | some [] => true
        | _ => false
      | none => false
    | none => false) &&
  ts.all fun
    | .sl e => (C.tab e).isSome
    | _ => true
def pkOk (C : Cx) : PK → Bool
  | .val agg ocs => (agg || (ocs.length == 1 && ocs.all fun c => match c.1 with | .arr .. => false | _ => true)) && decide (ocs.length < 999)
  | .box T ocs => C.tab T == some (ocs.map (·.1)) && decide (ocs.length < 999)
def chkS (C : Cx) (sg : Sig) : Bool := sg.params.all (pkOk C) && sg.results.all (fun r => pkOk C r.asPK) && decide (sg.results.length < 400)
theorem pkOk_ok {C : Cx} {p : PK} (h : pkOk C p = true) : p.ok C := by
  cases p with
  | val agg ocs =>
    simp only [pkOk, Bool.and_eq_true, Bool.or_eq_true, beq_iff_eq, List.all_eq_true, decide_eq_true_eq] at h
    refine ⟨fun ha => ?_, h.2⟩
    rcases h.1 with h1 | h1
    · rw [ha] at h1; cases h1
    · exact ⟨h1.1, fun c hc n e he => by have := h1.2 c hc; rw [he] at this; cases this⟩
  | box T ocs =>
    simp only [pkOk, Bool.and_eq_true, beq_iff_eq, decide_eq_true_eq] at h
    exact h
def Trees (C : Cx) (l : List (Nat × Tree)) : Prop := ∀ p ∈ l, ∃ hints, symFn C hints p.1 = .ok p.2
theorem Trees.nil (C : Cx) : Trees C [] := fun p hp => by cases hp
theorem Trees.cons {C : Cx} {hints : List (Nat × List Pos)} {f : Nat} {t : Tree} {l : List (Nat × Tree)} (h : symFn C hints f = .ok t) (hl : Trees C l) : Trees C ((f, t) :: l) := fun p hp => by
  rcases List.mem_cons.1 hp with rfl | hp
  · exact ⟨hints, h⟩
  · exact hl p hp
theorem Trees.append {C : Cx} {l m : List (Nat × Tree)} (h : Trees C l) (hm : Trees C m) : Trees C (l ++ m) := fun p hp => (List.mem_append.1 hp).elim (h p) (hm p)
theorem base_of {C : Cx} {tabL : List (Nat × List Ty)} {sigL : List (Nat × Sig)} {L : List (Nat × Tree)} {nat : Vt} (ht : C.tab = lookL tabL) (hs : C.sig = lookL sigL) (h1 : tabL.all (fun p => chkT C p.1 p.2) = true) (h2 : sigL.all (fun p => chkS C p.2) = true)
    (h3 : (C.sig isNilF).isNone = true) (h4 : C.P.follows .mixedOrders = true) (hL : Trees C L) (hn : ∀ f xs ys, nat f xs = some ys → CallOk C f xs ys ∧ lookL L f = none ∧ f ≠ isNilF) : Base C (lookL L) nat := by
  rw [List.all_eq_true] at h1 h2
  have hT : ∀ e ts, C.tab e = some ts → chkT C e ts = true := fun e ts h => h1 (e, ts) (lookL_mem (by rw [← ht]; exact h))
  refine ⟨fun e ts h => ?_, fun e ts h => ?_, fun t ts h e he => ?_, fun f sg h => ?_, Option.isNone_iff_eq_none.1 h3, h4, fun f t h => hL (f, t) (lookL_mem h), hn⟩
  · have := hT e ts h
    simp only [chkT, Bool.and_eq_true, beq_iff_eq, Bool.or_eq_true] at this
    exact ⟨this.1.1.1.1.1, this.1.1.1.1.2, this.1.1.1.2, this.1.1.2⟩
  · have := hT e ts h
    simp only [chkT, Bool.and_eq_true] at this
    have := this.1.2
    split at this
    · rename_i i hi
      split at this
      · rename_i z hz
        split at this
        · rename_i hr
          exact ⟨i, z, hi, hz, hr⟩
        · cases this
      · cases this
    · cases this
  · have := hT t ts h
    simp only [chkT, Bool.and_eq_true, List.all_eq_true] at this
    exact this.2 _ he
  · have := h2 (f, sg) (lookL_mem (by rw [← hs]; exact h))
    simp only [chkS, Bool.and_eq_true, List.all_eq_true, decide_eq_true_eq] at this
    exact ⟨fun p hp => pkOk_ok (this.1.1 p hp), fun r hr => pkOk_ok (this.1.2 r hr), this.2⟩
end Go.Fw
/- The framework, part 39: what has to be shown of a tree, so that it comes to something with a property. -/
namespace Go.Fw
open Alg
section
variable (C : Cx) (T : Nat → Option Tree) (nat : Vt)
/-- A function comes to this. -/
inductive Ret : Nat → List D → List D → Prop
  | tree {f : Nat} {t : Tree} {xs ys : List D} (hT : T f = some t) (h : EvU C T nat [] t xs ys) : Ret f xs ys
  | nat {f : Nat} {xs ys : List D} (h : nat f xs = some ys) : Ret f xs ys
/-- A function comes to something with this property. -/
def Gets (f : Nat) (xs : List D) (Q : List D → Prop) : Prop := ∃ ys, Ret C T nat f xs ys ∧ Q ys
/-- A function value comes to something with this property. -/
def GetsV (s : Sig) (x : D) (xs : List D) (Q : List D → Prop) : Prop := ∃ f tys caps t ys, x = .fn f tys caps ∧ C.sig f = some { s with params := s.params ++ tys.map fun t => .val false [(t, false)] } ∧ T f = some t ∧ EvU C T nat [] t (xs ++ caps) ys ∧ Q ys
def Cond (d : D) (A B : Prop) : Prop := ∃ p : Bool, d = .bool p ∧ (p = true → A) ∧ (p = false → B)
def WP : List (List D → Prop) → Tree → List D → (List D → Prop) → Prop
  | js, .ret es, ρ, Q => Q (es.map (·.eval ρ))
  | js, .ite c a b, ρ, Q => Cond (c.eval ρ) (WP js a ρ Q) (WP js b ρ Q)
  | js, .guard c k, ρ, Q => c.eval ρ = .bool true ∧ WP js k ρ Q
  | js, .call f args n k, ρ, Q => Gets C T nat f (args.map (·.eval ρ)) fun zs => zs.length = n ∧ WP js k (ρ ++ zs) Q
  | js, .callv s x args n k, ρ, Q => GetsV C T nat s (x.eval ρ) (args.map (·.eval ρ)) fun zs => zs.length = n ∧ WP js k (ρ ++ zs) Q
  | js, .join n body rest, ρ, Q => ∃ I : Nat → List D → Prop, (∀ m as, I m as → WP (js ++ [fun bs => ∃ k, k < m ∧ I k bs]) body (ρ ++ as) Q) ∧ WP (js ++ [fun bs => ∃ k, I k bs]) rest ρ Q
  | js, .jump j args, ρ, Q => ∃ G, js[j]? = some G ∧ G (args.map (·.eval ρ))
  | js, .any k, ρ, Q => ∃ ys, Q ys ∧ ∀ b : Bool, WP (js.map fun _ _ => False) k (ρ ++ [.bool b]) fun zs => zs = ys
end
section
variable {C : Cx} {T : Nat → Option Tree} {nat : Vt}
/-- What the goals at joins are good for. -/
def JsOk (C : Cx) (T : Nat → Option Tree) (nat : Vt) (JS : List (Tree × Nat)) (js : List (List D → Prop)) (ρ : List D) (Q : List D → Prop) : Prop :=
  JS.length = js.length ∧ ∀ j G body base, js[j]? = some G → JS[j]? = some (body, base) → base ≤ ρ.length ∧ ∀ as, G as → ∃ ys, Q ys ∧ EvU C T nat (JS.take (j + 1)) body (ρ.take base ++ as) ys
theorem JsOk.ext {JS : List (Tree × Nat)} {js : List (List D → Prop)} {ρ : List D} {Q : List D → Prop} (h : JsOk C T nat JS js ρ Q) (zs : List D) : JsOk C T nat JS js (ρ ++ zs) Q :=
  ⟨h.1, fun j G body base h1 h2 => by
    obtain ⟨a, b⟩ := h.2 j G body base h1 h2
    refine ⟨by simp; omega, fun as has => ?_⟩
    rw [List.take_append_of_le_length a]
    exact b as has⟩
theorem JsOk.snoc {JS : List (Tree × Nat)} {js : List (List D → Prop)} {ρ : List D} {Q : List D → Prop} (h : JsOk C T nat JS js ρ Q) {body : Tree} {ρ0 : List D} (hp : ρ0 <+: ρ) {G : List D → Prop}
    (hG : ∀ as, G as → ∃ ys, Q ys ∧ EvU C T nat (JS ++ [(body, ρ0.length)]) body (ρ0 ++ as) ys) : JsOk C T nat (JS ++ [(body, ρ0.length)]) (js ++ [G]) ρ Q := by
  refine ⟨by simp [h.1], fun j G' body' base h1 h2 => ?_⟩
  by_cases hj : j < js.length
  · rw [List.getElem?_append_left hj] at h1
    rw [List.getElem?_append_left (by rw [h.1]; exact hj)] at h2
    rw [List.take_append_of_le_length (by rw [h.1]; omega)]
    exact h.2 j G' body' base h1 h2
  · have : j = js.length := by
      have := (List.getElem?_eq_some_iff.1 h1).1
      simp at this
      omega
    subst this
    rw [List.getElem?_concat_length] at h1
    injection h1 with h1
    subst h1
    rw [← h.1, List.getElem?_concat_length] at h2
    injection h2 with h2
    simp only [Prod.mk.injEq] at h2
    obtain ⟨rfl, rfl⟩ := h2
    refine ⟨hp.length_le, fun as has => ?_⟩
    obtain ⟨ys, q, e⟩ := hG as has
    refine ⟨ys, q, ?_⟩
    rw [List.take_of_length_le (by simp [h.1])]
    obtain ⟨t, rfl⟩ := hp
    rw [List.take_left]
    exact e
theorem WP.mono {js : List (List D → Prop)} {t : Tree} : ∀ {ρ : List D} {Q Q' : List D → Prop} {js' : List (List D → Prop)}, WP C T nat js t ρ Q → (∀ ys, Q ys → Q' ys) → js.length = js'.length → (∀ (j : Nat) G G', js[j]? = some G → js'[j]? = some G' → ∀ as, G as → G' as) → WP C T nat js' t ρ Q' := by
  induction t generalizing js with
  | ret es => intro ρ Q Q' js' h hQ hl hj; exact hQ _ h
  | ite c a b iha ihb =>
    intro ρ Q Q' js' h hQ hl hj
    obtain ⟨p, h1, h2, h3⟩ := h
    exact ⟨p, h1, fun e => iha (h2 e) hQ hl hj, fun e => ihb (h3 e) hQ hl hj⟩
  | guard c k ih => intro ρ Q Q' js' h hQ hl hj; exact ⟨h.1, ih h.2 hQ hl hj⟩
  | call f args n k ih =>
    intro ρ Q Q' js' h hQ hl hj
    obtain ⟨ys, h1, h2, h3⟩ := h
    exact ⟨ys, h1, h2, ih h3 hQ hl hj⟩
  | callv s x args n k ih =>
    intro ρ Q Q' js' h hQ hl hj
    obtain ⟨f, tys, caps, t, ys, h1, h2, h3, h4, h5, h6⟩ := h
    exact ⟨f, tys, caps, t, ys, h1, h2, h3, h4, h5, ih h6 hQ hl hj⟩
  | join n body rest ihb ihr =>
    intro ρ Q Q' js' h hQ hl hj
    obtain ⟨I, h1, h2⟩ := h
    have key : ∀ (A : List D → Prop) (j : Nat) G G', (js ++ [A])[j]? = some G → (js' ++ [A])[j]? = some G' → ∀ as, G as → G' as := fun A j G G' e1 e2 as hg => by
      by_cases hlt : j < js.length
      · rw [List.getElem?_append_left hlt] at e1
        rw [List.getElem?_append_left (by omega)] at e2
        exact hj j G G' e1 e2 as hg
      · have : j = js.length := by
          have := (List.getElem?_eq_some_iff.1 e1).1
          simp at this
          omega
        subst this
        rw [List.getElem?_concat_length] at e1
        rw [hl, List.getElem?_concat_length] at e2
        injection e1 with e1
        injection e2 with e2
        rw [← e2, e1]
        exact hg
    exact ⟨I, fun m as hm => ihb (h1 m as hm) hQ (by simp [hl]) (key _), ihr h2 hQ (by simp [hl]) (key _)⟩
  | jump j args =>
    intro ρ Q Q' js' h hQ hl hj
    obtain ⟨G, h1, h2⟩ := h
    have hlt : j < js'.length := by rw [← hl]; exact (List.getElem?_eq_some_iff.1 h1).1
    exact ⟨js'[j], List.getElem?_eq_getElem hlt, hj j G _ h1 (List.getElem?_eq_getElem hlt) _ h2⟩
  | any k ih =>
    intro ρ Q Q' js' h hQ hl hj
    obtain ⟨ys, h1, h2⟩ := h
    refine ⟨ys, hQ _ h1, fun b => ih (h2 b) (fun _ h => h) (by simp [hl]) fun j G G' e1 e2 as hg => ?_⟩
    rw [List.getElem?_map, Option.map_eq_some_iff] at e1
    obtain ⟨_, _, rfl⟩ := e1
    exact hg.elim
theorem WP.sound {js : List (List D → Prop)} {t : Tree} : ∀ {JS : List (Tree × Nat)} {ρ : List D} {Q : List D → Prop}, WP C T nat js t ρ Q → JsOk C T nat JS js ρ Q → ∃ ys, Q ys ∧ EvU C T nat JS t ρ ys := by
  induction t generalizing js with
  | ret es => intro JS ρ Q h hj; exact ⟨_, h, .ret es⟩
  | ite c a b iha ihb =>
    intro JS ρ Q h hj
    obtain ⟨p, h1, h2, h3⟩ := h
    cases p with
    | true =>
      obtain ⟨ys, q, e⟩ := iha (h2 rfl) hj
      exact ⟨ys, q, .iteT h1 e⟩
    | false =>
      obtain ⟨ys, q, e⟩ := ihb (h3 rfl) hj
      exact ⟨ys, q, .iteF h1 e⟩
  | guard c k ih =>
    intro JS ρ Q h hj
    obtain ⟨ys, q, e⟩ := ih h.2 hj
    exact ⟨ys, q, .guard h.1 e⟩
  | call f args n k ih =>
    intro JS ρ Q h hj
    obtain ⟨zs, h1, h2, h3⟩ := h
    obtain ⟨ys, q, e⟩ := ih h3 (hj.ext zs)
    cases h1 with
    | tree hT hb => exact ⟨ys, q, .call hT hb h2 e⟩
    | nat hn => exact ⟨ys, q, .callN hn h2 e⟩
  | callv s x args n k ih =>
    intro JS ρ Q h hj
    obtain ⟨f, tys, caps, t, zs, h1, h2, h3, h4, h5, h6⟩ := h
    obtain ⟨ys, q, e⟩ := ih h6 (hj.ext zs)
    exact ⟨ys, q, .callv h1 h2 h3 h4 h5 e⟩
  | join n body rest ihb ihr =>
    intro JS ρ Q h hj
    obtain ⟨I, h1, h2⟩ := h
    have key : ∀ m as, I m as → ∃ ys, Q ys ∧ EvU C T nat (JS ++ [(body, ρ.length)]) body (ρ ++ as) ys := fun m => by
      induction m using Nat.strongRecOn with
      | _ m ih =>
        intro as hm
        refine ihb (h1 m as hm) ((hj.ext as).snoc (List.prefix_append _ _) fun bs hb => ?_)
        obtain ⟨k, hk, hi⟩ := hb
        exact ih k hk bs hi
    obtain ⟨ys, q, e⟩ := ihr h2 (hj.snoc (List.prefix_refl _) fun bs hb => by
      obtain ⟨k, hi⟩ := hb
      exact key k bs hi)
    exact ⟨ys, q, .join e⟩
  | jump j args =>
    intro JS ρ Q h hj
    obtain ⟨G, h1, h2⟩ := h
    have hlt : j < JS.length := by rw [hj.1]; exact (List.getElem?_eq_some_iff.1 h1).1
    have hJ := List.getElem?_eq_getElem hlt
    obtain ⟨a, b⟩ := hj.2 j G (JS[j]).1 (JS[j]).2 h1 hJ
    obtain ⟨ys, q, e⟩ := b _ h2
    exact ⟨ys, q, .jump hJ e⟩
  | any k ih =>
    intro JS ρ Q h hj
    obtain ⟨ys, q, h2⟩ := h
    have hj' : ∀ b : Bool, JsOk C T nat JS (js.map fun _ _ => False) (ρ ++ [.bool b]) (fun zs => zs = ys) := fun b => by
      refine ⟨by simp [hj.1], fun j G body base e1 e2 => ?_⟩
      rw [List.getElem?_map, Option.map_eq_some_iff] at e1
      obtain ⟨G', e1, rfl⟩ := e1
      refine ⟨?_, fun as h => h.elim⟩
      have := (hj.2 j G' body base e1 e2).1
      simp
      omega
    obtain ⟨y1, rfl, e1⟩ := ih (h2 true) (hj' true)
    obtain ⟨y2, e, e2⟩ := ih (h2 false) (hj' false)
    subst e
    exact ⟨_, q, .any e1 e2⟩
theorem gets {f : Nat} {t : Tree} (ht : T f = some t) {xs : List D} {Q : List D → Prop} (h : WP C T nat [] t xs Q) : Gets C T nat f xs Q := by
  obtain ⟨ys, q, e⟩ := h.sound (JS := []) ⟨rfl, fun j G body base h1 => by cases h1⟩
  exact ⟨ys, .tree ht e, q⟩
theorem Gets.mono {f : Nat} {xs : List D} {Q Q' : List D → Prop} (h : Gets C T nat f xs Q) (hq : ∀ ys, Q ys → Q' ys) : Gets C T nat f xs Q' := by
  obtain ⟨ys, h1, h2⟩ := h
  exact ⟨ys, h1, hq ys h2⟩
end
end Go.Fw
/- The framework, part 40: trees and expressions, rule by rule. -/
namespace Go.Fw
open Alg
section
variable {C : Cx} {T : Nat → Option Tree} {nat : Vt} {js : List (List D → Prop)} {ρ : List D} {Q : List D → Prop}
@[simp] theorem wp_ret (es : List SExp) : WP C T nat js (.ret es) ρ Q = Q (es.map (·.eval ρ)) := rfl
@[simp] theorem wp_ite (c : SExp) (a b : Tree) : WP C T nat js (.ite c a b) ρ Q = Cond (c.eval ρ) (WP C T nat js a ρ Q) (WP C T nat js b ρ Q) := rfl
@[simp] theorem wp_guard (c : SExp) (k : Tree) : WP C T nat js (.guard c k) ρ Q = (c.eval ρ = .bool true ∧ WP C T nat js k ρ Q) := rfl
@[simp] theorem wp_call (f : Nat) (args : List SExp) (n : Nat) (k : Tree) : WP C T nat js (.call f args n k) ρ Q = Gets C T nat f (args.map (·.eval ρ)) fun zs => zs.length = n ∧ WP C T nat js k (ρ ++ zs) Q := rfl
@[simp] theorem wp_callv (s : Sig) (x : SExp) (args : List SExp) (n : Nat) (k : Tree) : WP C T nat js (.callv s x args n k) ρ Q = GetsV C T nat s (x.eval ρ) (args.map (·.eval ρ)) fun zs => zs.length = n ∧ WP C T nat js k (ρ ++ zs) Q := rfl
@[simp] theorem wp_jump (j : Nat) (args : List SExp) : WP C T nat js (.jump j args) ρ Q = ∃ G, js[j]? = some G ∧ G (args.map (·.eval ρ)) := rfl
theorem wp_join (n : Nat) (body rest : Tree) : WP C T nat js (.join n body rest) ρ Q = ∃ I : Nat → List D → Prop, (∀ m as, I m as → WP C T nat (js ++ [fun bs => ∃ k, k < m ∧ I k bs]) body (ρ ++ as) Q) ∧ WP C T nat (js ++ [fun bs => ∃ k, I k bs]) rest ρ Q := rfl
@[simp] theorem cond_bool (b : Bool) (A B : Prop) : Cond (.bool b) A B ↔ if b = true then A else B := by
  unfold Cond
  constructor
  · rintro ⟨p, h1, h2, h3⟩
    injection h1 with h1
    subst h1
    cases b
    · simpa using h3
    · simpa using h2
  · intro h
    cases b
    · exact ⟨false, rfl, by simp, by simpa using h⟩
    · exact ⟨true, rfl, by simpa using h, by simp⟩
@[simp] theorem bool_true (b : Bool) : (D.bool b = .bool true) = (b = true) := by simp
end
section
variable (ρ : List D)
@[simp] theorem ev_var (i : Nat) : (SExp.var i).eval ρ = ρ.getD i default := rfl
@[simp] theorem ev_lt (l : Lt) : (SExp.lt l).eval ρ = l.den := rfl
@[simp] theorem ev_e1 (o : F1) (a : SExp) : (SExp.e1 o a).eval ρ = o.den (a.eval ρ) := rfl
@[simp] theorem ev_e2 (o : F2) (a b : SExp) : (SExp.e2 o a b).eval ρ = o.den (a.eval ρ) (b.eval ρ) := rfl
@[simp] theorem ev_e3 (o : F3) (a b c : SExp) : (SExp.e3 o a b c).eval ρ = o.den (a.eval ρ) (b.eval ρ) (c.eval ρ) := rfl
end
section
variable (k : IntKind) (m n : Int) (b c : Bool) (s t : List UInt8) (d e : D) (l r : List (List D)) (i j : Nat)
@[simp] theorem lt_int : (Lt.int n).den = .int n := rfl
@[simp] theorem lt_bool : (Lt.bool b).den = .bool b := rfl
@[simp] theorem lt_str : (Lt.str s).den = .str s := rfl
@[simp] theorem lt_nil : Lt.nil.den = .rows [] := rfl
@[simp] theorem d_neg : (F1.neg k).den (.int n) = .int (k.wrap (0 - n)) := rfl
@[simp] theorem d_cpl : (F1.cpl k).den (.int n) = .int (bits .xor k (if k.signed then -1 else k.max) n) := rfl
@[simp] theorem d_not : F1.not.den (.bool b) = .bool (!b) := rfl
@[simp] theorem d_conv : (F1.conv k).den (.int n) = .int (k.wrap n) := rfl
@[simp] theorem d_slen : F1.slen.den (.str s) = .int s.length := rfl
@[simp] theorem d_llen : F1.llen.den (.rows l) = .int l.length := rfl
@[simp] theorem d_strOf : F1.strOf.den (.rows l) = .str (l.map fun r => UInt8.ofNat (r.headD default).toInt.toNat) := rfl
@[simp] theorem d_bytesOf : F1.bytesOf.den (.str s) = .rows (s.map fun b => [.int b.toNat]) := rfl
@[simp] theorem d_one : F1.one.den d = .rows [[d]] := rfl
@[simp] theorem d_cell (x : List D) : (F1.cell j).den (.rows [x]) = x.getD j default := rfl
@[simp] theorem d_add : (F2.add k).den (.int m) (.int n) = .int (k.wrap (m + n)) := rfl
@[simp] theorem d_sub : (F2.sub k).den (.int m) (.int n) = .int (k.wrap (m - n)) := rfl
@[simp] theorem d_mul : (F2.mul k).den (.int m) (.int n) = .int (k.wrap (m * n)) := rfl
@[simp] theorem d_and : (F2.and k).den (.int m) (.int n) = .int (bits .and k m n) := rfl
@[simp] theorem d_or : (F2.or k).den (.int m) (.int n) = .int (bits .or k m n) := rfl
@[simp] theorem d_xor : (F2.xor k).den (.int m) (.int n) = .int (bits .xor k m n) := rfl
@[simp] theorem d_andn : (F2.andn k).den (.int m) (.int n) = .int (bits .andNot k m n) := rfl
@[simp] theorem d_quo : (F2.quo k).den (.int m) (.int n) = .int (k.wrap (m.tdiv n)) := rfl
@[simp] theorem d_rem : F2.rem.den (.int m) (.int n) = .int (m.tmod n) := rfl
@[simp] theorem d_shl : (F2.shl k).den (.int m) (.int n) = .int (k.wrap (m * 2 ^ (Nat.min n.toNat k.bits))) := rfl
@[simp] theorem d_shr : (F2.shr k).den (.int m) (.int n) = .int (m.fdiv (2 ^ (Nat.min n.toNat k.bits))) := rfl
@[simp] theorem d_ieq : F2.ieq.den (.int m) (.int n) = .bool (decide (m = n)) := by simp [F2.den, D.toInt]; rfl
@[simp] theorem d_ine : F2.ine.den (.int m) (.int n) = .bool (decide (m ≠ n)) := by simp [F2.den, D.toInt, bne]; rfl
@[simp] theorem d_ilt : F2.ilt.den (.int m) (.int n) = .bool (decide (m < n)) := rfl
@[simp] theorem d_ile : F2.ile.den (.int m) (.int n) = .bool (decide (m ≤ n)) := rfl
@[simp] theorem d_igt : F2.igt.den (.int m) (.int n) = .bool (decide (n < m)) := rfl
@[simp] theorem d_ige : F2.ige.den (.int m) (.int n) = .bool (decide (n ≤ m)) := rfl
@[simp] theorem d_beq : F2.beq.den (.bool b) (.bool c) = .bool (b == c) := rfl
@[simp] theorem d_bne : F2.bne.den (.bool b) (.bool c) = .bool (!(b == c)) := rfl
@[simp] theorem d_seq : F2.seq.den (.str s) (.str t) = .bool (decide (s = t)) := by
  show D.bool (s == t) = _
  by_cases h : s = t <;> simp [h]
@[simp] theorem d_sne : F2.sne.den (.str s) (.str t) = .bool (decide (s ≠ t)) := by
  show D.bool (!(s == t)) = _
  by_cases h : s = t <;> simp [h]
@[simp] theorem d_cat : F2.cat.den (.str s) (.str t) = .str (s ++ t) := rfl
@[simp] theorem d_sidx : F2.sidx.den (.str s) (.int n) = .int ((s.getD n.toNat 0).toNat : Int) := rfl
@[simp] theorem d_min : F2.min.den (.int m) (.int n) = .int (if n < m then n else m) := rfl
@[simp] theorem d_max : F2.max.den (.int m) (.int n) = .int (if m < n then n else m) := rfl
@[simp] theorem d_app : F2.app.den (.rows l) (.rows r) = .rows (l ++ r) := rfl
@[simp] theorem d_row : F2.row.den (.rows l) (.int n) = .rows [l.getD n.toNat []] := rfl
@[simp] theorem d_addc (x : List D) : F2.addc.den (.rows [x]) d = .rows [x ++ [d]] := rfl
@[simp] theorem d_rep (x : List D) : F2.rep.den (.int n) (.rows [x]) = .rows (List.replicate n.toNat x) := rfl
@[simp] theorem d_deq : F2.deq.den d e = .bool (d.beq e) := rfl
@[simp] theorem d_dne : F2.dne.den d e = .bool (!(d.beq e)) := rfl
@[simp] theorem d_ssub : F3.ssub.den (.str s) (.int m) (.int n) = .str ((s.take n.toNat).drop m.toNat) := rfl
@[simp] theorem d_lsub : F3.lsub.den (.rows l) (.int m) (.int n) = .rows ((l.take n.toNat).drop m.toNat) := rfl
@[simp] theorem d_lset (x : List D) : F3.lset.den (.rows l) (.int n) (.rows [x]) = .rows (l.set n.toNat x) := rfl
end
/-- A loop, or a join: what holds there, and a measure that goes down. -/
theorem wp_loop_rule {C : Cx} {T : Nat → Option Tree} {nat : Vt} {js : List (List D → Prop)} {ρ : List D} {Q : List D → Prop} {n : Nat} {body rest : Tree} (I : Nat → List D → Prop)
    (h1 : ∀ m as, I m as → WP C T nat (js ++ [fun bs => ∃ k, k < m ∧ I k bs]) body (ρ ++ as) Q) (h2 : WP C T nat (js ++ [fun bs => ∃ k, I k bs]) rest ρ Q) : WP C T nat js (.join n body rest) ρ Q := ⟨I, h1, h2⟩
end Go.Fw
/- The framework, part 41: arguments that are read as data. -/
namespace Go.Fw
open Alg Go.ChangeShapes
mutual
inductive DT (C : Cx) : Ty → D → Prop
  | int (k : IntKind) (n : Int) (h : k.min ≤ n ∧ n ≤ k.max) : DT C (.int k) (.int n)
  | bool (b : Bool) : DT C .bool (.bool b)
  | str (s : List UInt8) (h : s.length ≤ 140737488351232) : DT C .str (.str s)
  | sl (e : Nat) (ts : List Ty) (rows : List (List D)) (ht : C.tab e = some ts) (h : DTR C ts rows) (hl : rows.length * C.P.bytesOf e ≤ 140737488351232) : DT C (.sl e) (.rows rows)
  | arr (n e : Nat) (ts : List Ty) (rows : List (List D)) (ht : C.tab e = some ts) (h : DTR C ts rows) (hn : rows.length = n) : DT C (.arr n e) (.rows rows)
inductive DTs (C : Cx) : List Ty → List D → Prop
  | nil : DTs C [] []
  | cons (t : Ty) (ts : List Ty) (d : D) (ds : List D) (h : DT C t d) (hs : DTs C ts ds) : DTs C (t :: ts) (d :: ds)
inductive DTR (C : Cx) : List Ty → List (List D) → Prop
  | nil (ts : List Ty) : DTR C ts []
  | cons (ts : List Ty) (r : List D) (rs : List (List D)) (h : DTs C ts r) (hs : DTR C ts rs) : DTR C ts (r :: rs)
end
theorem DTs.append {C : Cx} : ∀ {ts us : List Ty} {ds es : List D}, DTs C ts ds → DTs C us es → DTs C (ts ++ us) (ds ++ es)
  | _, _, _, _, .nil, h => h
  | _, _, _, _, .cons t ts d ds h hs, h' => .cons t _ d _ h (hs.append h')
theorem DTR.append {C : Cx} : ∀ {ts : List Ty} {ds es : List (List D)}, DTR C ts ds → DTR C ts es → DTR C ts (ds ++ es)
  | _, _, _, .nil _, h => h
  | _, _, _, .cons ts r rs h hs, h' => .cons ts r _ h (hs.append h')
theorem DTR.mem {C : Cx} : ∀ {ts : List Ty} {ds : List (List D)}, DTR C ts ds → ∀ r ∈ ds, DTs C ts r
  | _, _, .nil _, r, hr => by cases hr
  | _, _, .cons ts r' rs h hs, r, hr => by
    rcases List.mem_cons.1 hr with rfl | hr
    · exact h
    · exact hs.mem r hr
/-- Types that are read as plain data. -/
def opens (C : Cx) : Nat → Nat → Bool
  | 0, _ => false
  | k + 1, t => match C.P.underlying t with
    | some .bool => C.tab t == some [.bool]
    | some (.int q) => C.tab t == some [.int q]
    | some .string => C.tab t == some [.str]
    | some (.slice e) => C.tab t == some [.sl e] && opens C k e && decide (0 < C.P.cellsOf e)
    | some (.struct fs) => (match C.tab t with | some ts => tile C 0 fs.toList ts | none => false) && fs.toList.all fun f => opens C k f.type
    | some (.array n e) => C.tab t == some [.arr n e] && opens C k e
    | _ => false
section
variable {C : Cx} {W : World} {H : Type} {enc : TypeId × Value → H}
theorem rows_of {ts : List Ty} {cs : List Value} {S : Nat → Prop} (s : Nat) : ∀ (n : Nat), (∀ i, i < n → ∃ r, RepRow C W S ts r ((cs.drop (i * s)).take s) ∧ DTs C ts r) → ∃ rows, rows.length = n ∧ RepRows C W S ts rows (cs.take (n * s)) ∧ DTR C ts rows
  | 0, _ => ⟨[], rfl, by simp; exact .nil ts, .nil ts⟩
  | n + 1, h => by
    obtain ⟨rows, h1, h2, h3⟩ := rows_of s n fun i hi => h i (by omega)
    obtain ⟨r, h4, h5⟩ := h n (by omega)
    refine ⟨rows ++ [r], by simp [h1], ?_, h3.append (.cons ts r [] h5 (.nil ts))⟩
    have e : cs.take ((n + 1) * s) = cs.take (n * s) ++ (cs.drop (n * s)).take s := by
      rw [Nat.add_mul, Nat.one_mul, List.take_add]
    rw [e]
    refine h2.append ?_
    simpa using RepRows.cons ts r [] _ [] h4 (.nil ts)
theorem rows_at {ts : List Ty} {S : Nat → Prop} (b o s : Nat) (hs : ∀ {r c}, RepRow C W S ts r c → c.length = s) : ∀ (n : Nat), (∀ i, i < n → ∃ r c, RepRow C W S ts r c ∧ DTs C ts r ∧ ∀ j v, c[j]? = some v → W.cell? ⟨b, o + i * s + j, none⟩ = some v) →
    ∃ rows cells, rows.length = n ∧ RepRows C W S ts rows cells ∧ DTR C ts rows ∧ cells.length = n * s ∧ ∀ j v, cells[j]? = some v → W.cell? ⟨b, o + j, none⟩ = some v
  | 0, _ => ⟨[], [], rfl, .nil ts, .nil ts, by simp, fun j v h => by simp at h⟩
  | n + 1, h => by
    obtain ⟨rows, cells, h1, h2, h3, h4, h5⟩ := rows_at b o s hs n fun i hi => h i (by omega)
    obtain ⟨r, c, h6, h7, h8⟩ := h n (by omega)
    refine ⟨rows ++ [r], cells ++ c, by simp [h1], h2.append (by simpa using RepRows.cons ts r [] c [] h6 (.nil ts)), h3.append (.cons ts r [] h7 (.nil ts)), by simp [h4, hs h6, Nat.add_mul], fun j v hj => ?_⟩
    by_cases hlt : j < cells.length
    · rw [List.getElem?_append_left hlt] at hj
      exact h5 j v hj
    · rw [List.getElem?_append_right (by omega)] at hj
      have := h8 _ v hj
      rw [h4] at this hlt
      rw [← this]
      congr 2
      omega
theorem weights_all {e : Nat} : ∀ {l : List (DataW H)} {d : DataW H}, d ∈ l → ∀ x ∈ d.weights C.P e, x ∈ DataW.weightsAll C.P e l
  | d' :: l, d, hd, x, hx => by
    simp only [DataW.weightsAll, List.mem_append]
    rcases List.mem_cons.1 hd with rfl | hd
    · exact .inl hx
    · exact .inr (weights_all hd x hx)
theorem open_fields (hC : C.ok) {n k : Nat} (ih : ∀ {t : Nat} {cells : List Value} {x : DataW H × List MemPlace}, DataW.trod enc C.P W 0 (fun _ => true) true n t cells = some x → opens C k t = true → (∀ y ∈ x.1.weights C.P t, y ≤ reachBytes) →
      ∃ ts xs, C.tab t = some ts ∧ RepRow C W (· < W.heap.size) ts xs cells ∧ DTs C ts xs) {cs : List Value} :
    ∀ (fs : List Field) (xs : List (DataW H × List MemPlace)) (o : Nat) (ts : List Ty), tile C o fs ts = true → (∀ f ∈ fs, opens C k f.type = true) → xs.length = fs.length →
      (∀ (i : Nat) (f : Field), fs[i]? = some f → DataW.trod enc C.P W 0 (fun _ => true) true n f.type ((cs.drop f.offset).take (C.P.cellsOf f.type)) = xs[i]?) →
      (∀ y ∈ DataW.weightsEach C.P (fs.map (·.type)) (xs.map (·.1)), y ≤ reachBytes) → cs.length = o + sizes C ts → ∃ ds, RepRow C W (· < W.heap.size) ts ds (cs.drop o) ∧ DTs C ts ds
  | [], xs, o, ts, ht, _, _, _, _, hl => by
    simp only [tile, List.isEmpty_iff] at ht
    subst ht
    have : cs.drop o = [] := List.drop_eq_nil_of_le (by simp [sizes] at hl; omega)
    rw [this]
    exact ⟨[], .nil, .nil⟩
  | f :: fs, [], o, ts, _, _, hx, _, _, _ => by simp at hx
  | f :: fs, x :: xs, o, ts, ht, ho, hx, hf, hw, hl => by
    simp only [tile, Bool.and_eq_true, beq_iff_eq] at ht
    obtain ⟨⟨e1, _⟩, ht⟩ := ht
    split at ht
    · rename_i us hus
      simp only [Bool.and_eq_true, beq_iff_eq] at ht
      obtain ⟨e2, ht⟩ := ht
      have h0 := hf 0 f rfl
      simp only [List.getElem?_cons_zero] at h0
      obtain ⟨ts0, d0, h1, h2, h3⟩ := ih h0 (ho f (by simp)) (fun y hy => hw y (by
        simp only [List.map_cons, DataW.weightsEach, List.mem_append]
        exact .inl hy))
      rw [hus] at h1
      injection h1 with h1
      subst h1
      have hsz := (hC f.type us hus).1
      have hts : ts = us ++ ts.drop us.length := by
        conv => lhs; rw [← List.take_append_drop us.length ts]
        rw [← e2]
      obtain ⟨ds, h4, h5⟩ := open_fields hC ih fs xs (o + sizes C us) (ts.drop us.length) ht (fun g hg => ho g (by simp [hg])) (by simpa using hx) (fun i g hg => by
        have := hf (i + 1) g (by simpa using hg)
        simpa using this) (fun y hy => hw y (by
        simp only [List.map_cons, DataW.weightsEach, List.mem_append]
        exact .inr hy)) (by
        rw [hl]
        conv => lhs; rw [hts]
        simp [sizes, Nat.add_assoc])
      refine ⟨d0 ++ ds, ?_, ?_⟩
      · rw [hts]
        have : cs.drop o = (cs.drop o).take (sizes C us) ++ cs.drop (o + sizes C us) := by
          rw [← List.drop_drop, List.take_append_drop]
        rw [this]
        rw [e1, ← hsz] at h2
        exact h2.append h4
      · rw [hts]
        exact h3.append h5
    · cases ht
theorem open_rep (hC : C.ok) : ∀ {n k t : Nat} {cells : List Value} {x : DataW H × List MemPlace}, DataW.trod enc C.P W 0 (fun _ => true) true n t cells = some x → opens C k t = true → (∀ y ∈ x.1.weights C.P t, y ≤ reachBytes) →
    ∃ ts xs, C.tab t = some ts ∧ RepRow C W (· < W.heap.size) ts xs cells ∧ DTs C ts xs := by
  intro n
  induction n with
  | zero => intro k t cells x h; simp [DataW.trod] at h
  | succ n ihn =>
  intro k t cells x h ho hw
  cases k with
  | zero => cases ho
  | succ k =>
  have one : ∀ {ty : Ty} {d : D} {c : List Value}, C.tab t = some [ty] → Rep C W (· < W.heap.size) ty d c → DT C ty d → ∃ ts xs, C.tab t = some ts ∧ RepRow C W (· < W.heap.size) ts xs c ∧ DTs C ts xs := fun {ty d c} h1 h2 h3 =>
    ⟨[ty], [d], h1, by simpa using RepRow.cons ty [] d [] c [] h2 .nil, .cons ty [] d [] h3 .nil⟩
  simp only [opens] at ho
  split at ho
  · rename_i hu
    obtain ⟨b, rfl, rfl⟩ := DataW.trod_bool hu h
    exact one (by simpa using ho) (.bool b) (.bool b)
  · rename_i q hu
    obtain ⟨m, rfl, rfl, hwf⟩ := DataW.trod_int hu h
    simp only [Lit.wf, Bool.and_eq_true, decide_eq_true_eq] at hwf
    exact one (by simpa using ho) (.int q m) (.int q m hwf)
  · rename_i hu
    obtain ⟨s, rfl, rfl, hs⟩ := DataW.trod_string hu h
    have hl : s.data.toList.length ≤ reachBytes := hw _ (by simp [DataW.weights])
    have e : (⟨s.data.toList.toArray⟩ : ByteArray) = s := bytes_eta s
    refine one (d := .str s.data.toList) (by simpa using ho) ?_ (.str _ hl)
    have := Rep.str (C := C) (w := W) (S := (· < W.heap.size)) s.data.toList
    rw [e] at this
    exact this
  · rename_i e hu
    simp only [Bool.and_eq_true, beq_iff_eq, decide_eq_true_eq] at ho
    obtain ⟨⟨ht, he⟩, hpos⟩ := ho
    rcases DataW.trod_slice hu h with ⟨rfl, rfl⟩ | ⟨a, len, cap, elems, rest, m, hm, rfl, rfl, hb, hl, hmx, hlen, hel, hsp, hns⟩
    · obtain ⟨ts, hts⟩ : ∃ ts, C.tab e = some ts := by
        cases k with
        | zero => cases he
        | succ k =>
          cases hh : C.tab e with
          | some ts => exact ⟨ts, rfl⟩
          | none =>
            simp only [opens] at he
            split at he <;> simp [hh] at he
      exact one (d := .rows []) ht (.nil e none 0) (.sl e ts [] hts (.nil ts) (by simp))
    · injection hm with hm
      subst hm
      obtain ⟨ts, hts⟩ : ∃ ts, C.tab e = some ts := by
        cases k with
        | zero => cases he
        | succ k =>
          cases hh : C.tab e with
          | some ts => exact ⟨ts, rfl⟩
          | none =>
            simp only [opens] at he
            split at he <;> simp [hh] at he
      have hsz := (hC e ts hts).1
      have hcells : ∀ i, i < len → ∃ r c, RepRow C W (· < W.heap.size) ts r c ∧ DTs C ts r ∧ a.spot = none ∧ a.block < W.heap.size ∧ ∀ j v, c[j]? = some v → W.cell? ⟨a.block, a.off + i * C.P.cellsOf e + j, none⟩ = some v := fun i hi => by
        have h1 := hel i hi
        obtain ⟨y, hy⟩ : ∃ y, elems[i]? = some y := ⟨elems[i], List.getElem?_eq_getElem (by omega)⟩
        rw [hy, Option.bind_eq_some_iff] at h1
        obtain ⟨cs, hcs, htr⟩ := h1
        obtain ⟨ts', r, e1, e2, e3⟩ := ihn htr he (fun z hz => hw z (by
          simp only [DataW.weights, hu, List.mem_cons, List.mem_append]
          exact .inr (.inl (weights_all (List.mem_map.2 ⟨y, List.mem_of_getElem? hy, rfl⟩) z hz))))
        rw [hts] at e1
        injection e1 with e1
        subst e1
        obtain ⟨_, hl1, hc1⟩ := World.cells?_some hcs
        have hblk := World.cells?_block hcs hpos
        rw [block_add] at hblk
        have hat : ∀ j, ((a.add (i * C.P.cellsOf e)).add j) = if i * C.P.cellsOf e + j = 0 then a else ⟨a.block, a.off + i * C.P.cellsOf e + j, none⟩ := fun j => by
          unfold Addr.add
          by_cases h1 : i * C.P.cellsOf e = 0
          · simp only [h1, if_true, Nat.zero_add, Nat.add_zero]
          · by_cases h2 : j = 0
            · simp [h1, h2]
            · simp [h1, h2]
        refine ⟨r, cs, e2, e3, ?_, hblk, fun j v hj => ?_⟩
        · by_cases hi0 : i = 0
          · subst hi0
            have := hc1 0 hpos
            rw [hat 0] at this
            simp only [Nat.zero_mul, Nat.add_zero, if_true] at this
            have hcs0 : ∃ v, cs[0]? = some v := ⟨cs[0], List.getElem?_eq_getElem (by omega)⟩
            obtain ⟨v, hv⟩ := hcs0
            rw [hv] at this
            unfold World.cell? at this
            split at this
            · split at this
              · cases this
              · rename_i hsp
                cases hh : a.spot with
                | none => rfl
                | some q => rw [hh] at hsp; simp at hsp
            · cases this
          · have h0 := hel 0 (by omega)
            obtain ⟨y0, hy0⟩ : ∃ y, elems[0]? = some y := ⟨elems[0], List.getElem?_eq_getElem (by omega)⟩
            rw [hy0, Option.bind_eq_some_iff] at h0
            obtain ⟨cs0, hcs0, _⟩ := h0
            obtain ⟨_, hl0, hc0⟩ := World.cells?_some hcs0
            have := hc0 0 hpos
            have ea : (a.add (0 * C.P.cellsOf e)).add 0 = a := by simp [Addr.add]
            rw [ea] at this
            obtain ⟨v, hv⟩ : ∃ v, cs0[0]? = some v := ⟨cs0[0], List.getElem?_eq_getElem (by omega)⟩
            rw [hv] at this
            unfold World.cell? at this
            split at this
            · split at this
              · cases this
              · rename_i hsp
                cases hh : a.spot with
                | none => rfl
                | some q => rw [hh] at hsp; simp at hsp
            · cases this
        · have hjl : j < C.P.cellsOf e := by
            have := (List.getElem?_eq_some_iff.1 hj).1
            omega
          have := hc1 j hjl
          rw [hat j, hj] at this
          split at this
          · rename_i h0
            have hi0 : i * C.P.cellsOf e = 0 := by omega
            have hj0 : j = 0 := by omega
            simp only [hi0, hj0, Nat.add_zero]
            have hspot : a.spot = none := by
              unfold World.cell? at this
              split at this
              · split at this
                · cases this
                · rename_i hsp
                  cases hh : a.spot with
                  | none => rfl
                  | some q => rw [hh] at hsp; simp at hsp
              · cases this
            rw [← this]
            congr 1
            cases a
            simp only at hspot
            subst hspot
            rfl
          · exact this
      by_cases h0 : len = 0
      · subst h0
        exact one (d := .rows []) ht (.nil e (some a) cap) (.sl e ts [] hts (.nil ts) (by simp))
      · obtain ⟨_, _, _, _, hspot, hblk, _⟩ := hcells 0 (by omega)
        obtain ⟨rows, cells, h1, h2, h3, h4, h5⟩ := rows_at (C := C) (W := W) (ts := ts) (S := (· < W.heap.size)) a.block a.off (C.P.cellsOf e) (fun {r c} hr => by rw [← hsz]; exact hr.len hC) len (fun i hi => by
          obtain ⟨r, c, q1, q2, _, _, q3⟩ := hcells i hi
          exact ⟨r, c, q1, q2, q3⟩)
        have hne : rows ≠ [] := fun e => by rw [e] at h1; simp at h1; omega
        have hbytes : rows.length * C.P.bytesOf e ≤ 140737488351232 := by
          have := hw ((elems.length + rest.length) * C.P.bytesOf e) (by simp [DataW.weights, hu])
          rw [h1, ← hlen]
          refine Nat.le_trans (Nat.mul_le_mul_right _ (Nat.le_add_right _ _)) this
        have hrep : Rep C W (· < W.heap.size) (.sl e) (.rows rows) [.slice (some a) len cap] := by
          have := Rep.sl (C := C) (w := W) (S := (· < W.heap.size)) e ts rows a.block a.off cap cells hts hblk hne (by omega) h2 h5
          rw [h1] at this
          have ea : a = ⟨a.block, a.off, none⟩ := by
            cases a
            simp only at hspot
            subst hspot
            rfl
          rw [ea]
          exact this
        exact one ht hrep (.sl e ts rows hts h3 hbytes)
  · rename_i fs hu
    simp only [Bool.and_eq_true, List.all_eq_true] at ho
    obtain ⟨h1, h2⟩ := ho
    split at h1
    · rename_i ts hts
      obtain ⟨xs, m, hm, rfl, hcl, hxl, hxf⟩ := DataW.trod_struct hu h
      injection hm with hm
      subst hm
      obtain ⟨ds, h3, h4⟩ := open_fields hC (n := n) (k := k) (fun {t cells x} a b c => ihn a b c) fs.toList xs 0 ts h1 h2 (by simpa using hxl) (fun i f hf => hxf i f (by simpa using hf)) (fun y hy => hw y (by
        simp only [DataW.weights, hu]
        exact hy)) (by rw [hcl, (hC t ts hts).1, Nat.zero_add])
      exact ⟨ts, ds, hts, by simpa using h3, h4⟩
    · cases h1
  · rename_i m e hu
    simp only [Bool.and_eq_true, beq_iff_eq] at ho
    obtain ⟨ht, he⟩ := ho
    obtain ⟨ts, hts⟩ : ∃ ts, C.tab e = some ts := by
      cases k with
      | zero => cases he
      | succ k =>
        cases hh : C.tab e with
        | some ts => exact ⟨ts, rfl⟩
        | none =>
          simp only [opens] at he
          split at he <;> simp [hh] at he
    have hsz := (hC e ts hts).1
    unfold DataW.trod at h
    rw [hu] at h
    simp only at h
    split at h
    · rename_i hl
      rw [Option.map_eq_some_iff] at h
      obtain ⟨xs, hxs, rfl⟩ := h
      have hget : ∀ i, i < m → DataW.trod enc C.P W 0 (fun _ => true) true n e ((cells.drop (i * C.P.cellsOf e)).take (C.P.cellsOf e)) = xs[i]? := fun i hi => mapM_some_get hxs i i (by simp [hi])
      have hxl : xs.length = m := by simpa using mapM_some_length hxs
      obtain ⟨rows, h1, h2, h3⟩ := rows_of (C := C) (W := W) (ts := ts) (cs := cells) (S := (· < W.heap.size)) (sizes C ts) m (fun i hi => by
        obtain ⟨y, hy⟩ : ∃ y, xs[i]? = some y := ⟨xs[i], List.getElem?_eq_getElem (by omega)⟩
        obtain ⟨ts', r, e1, e2, e3⟩ := ihn ((hget i hi).trans hy) he (fun z hz => hw z (by
          simp only [DataW.weights, hu]
          exact weights_all (List.mem_map.2 ⟨y, List.mem_of_getElem? hy, rfl⟩) z hz))
        rw [hts] at e1
        injection e1 with e1
        subst e1
        rw [hsz]
        exact ⟨r, e2, e3⟩)
      have hcl : cells.take (m * sizes C ts) = cells := by
        refine List.take_of_length_le ?_
        rw [hl]
        have := hC t _ ht
        have e2 := this.1
        simp only [sizes, List.map_cons, List.map_nil, List.sum_cons, List.sum_nil, Ty.size, Nat.add_zero] at e2
        rw [← e2, hsz]
        exact Nat.le_refl _
      rw [hcl] at h2
      exact one ht (.arr m e ts rows cells hts h1 h2) (.arr m e ts rows hts h3 h1)
    · cases h
  · cases ho
end
end Go.Fw
/- The framework, part 42: a law whose tree comes to 'true' for all data holds as its row says. -/
namespace Go.Fw
open Alg Go.ChangeShapes Go.RowKit
section
variable {C : Cx} {W : World} {H : Type} {enc : TypeId × Value → H}
theorem cellsBack_data (nm : Nat → Name) : ∀ (ts : List Ty) (q : Nat) (xs : List D), xs.length = ts.length → cellsBack nm q (ts.map fun t => (t, false)) xs = (dCells ts xs, [])
  | [], q, [], _ => rfl
  | t :: ts, q, x :: xs, h => by
    rw [List.map_cons, cellsBack_false, cellsBack_data nm ts (q + 1) xs (by simpa using h)]
    rfl
  | [], q, _ :: _, h => by simp at h
  | _ :: _, q, [], h => by simp at h
theorem DTs.lens {ts : List Ty} {xs : List D} (h : DTs C ts xs) : xs.length = ts.length := by
  revert h
  induction ts generalizing xs with
  | nil => intro h; cases h; rfl
  | cons t ts ih => intro h; cases h with | cons _ _ d ds h hs => simp [ih hs]
/-- A type's place among the parameters. -/
def parOf (C : Cx) (t : Nat) (ts : List Ty) : PK := .val (C.isAgg t) (ts.map fun t => (t, false))
theorem opens_one {k t : Nat} (ho : opens C k t = true) (ha : C.isAgg t = false) : ∃ ty, C.tab t = some [ty] := by
  cases k with
  | zero => cases ho
  | succ k =>
    simp only [opens] at ho
    split at ho
    · exact ⟨_, by simpa using ho⟩
    · exact ⟨_, by simpa using ho⟩
    · exact ⟨_, by simpa using ho⟩
    · simp only [Bool.and_eq_true, beq_iff_eq] at ho; exact ⟨_, ho.1.1⟩
    · rename_i fs hu; simp [Cx.isAgg, hu] at ha
    · rename_i m e hu; simp [Cx.isAgg, hu] at ha
    · cases ho
theorem one_cells {k t : Nat} (ho : opens C k t = true) {r : Reach} {base : Nat} {v : Value} (hv : Value.okWide C.P W r base t v) : (C.isAgg t = true ∧ ∃ cs, v = .agg cs) ∨ (C.isAgg t = false ∧ v.cells = #[v]) := by
  cases k with
  | zero => cases ho
  | succ k =>
    simp only [opens] at ho
    split at ho
    · rename_i hu
      right
      simp only [Value.okWide, hu, Cell.okWide, Cell.ok] at hv
      refine ⟨by simp [Cx.isAgg, hu], ?_⟩
      split at hv <;> first | rfl | exact hv.elim
    · rename_i q hu
      right
      simp only [Value.okWide, hu, Cell.okWide, Cell.ok] at hv
      refine ⟨by simp [Cx.isAgg, hu], ?_⟩
      split at hv <;> first | rfl | exact hv.elim
    · rename_i hu
      right
      simp only [Value.okWide, hu, Cell.okWide, Cell.ok] at hv
      refine ⟨by simp [Cx.isAgg, hu], ?_⟩
      split at hv <;> first | rfl | exact hv.elim
    · rename_i e hu
      right
      simp only [Value.okWide, hu, Cell.okWide, Cell.ok] at hv
      refine ⟨by simp [Cx.isAgg, hu], ?_⟩
      split at hv <;> first | rfl | exact hv.elim
    · rename_i fs hu
      left
      simp only [Value.okWide, hu] at hv
      obtain ⟨cs, h, _⟩ := hv
      exact ⟨by simp [Cx.isAgg, hu], cs, h⟩
    · rename_i m e hu
      left
      simp only [Value.okWide, hu] at hv
      obtain ⟨cs, h, _⟩ := hv
      exact ⟨by simp [Cx.isAgg, hu], cs, h⟩
    · cases ho
theorem args_open (hC : C.ok) {r : Reach} {base : Nat} : ∀ (ts : List TypeId) (tss : List (List Ty)) (vs : List Value) (ds : List (DataW H)) (ps : List MemPlace) (q : Nat), DataW.TrodAll enc C.P W 0 (fun _ => true) true ts vs ds ps → ts.mapM C.tab = some tss →
    (∀ t ∈ ts, opens C 8 t = true) → (∀ (j : Nat) (t : TypeId) (v : Value), ts[j]? = some t → vs[j]? = some v → Value.okWide C.P W r base t v) → (∀ y ∈ DataW.weightsEach C.P ts ds, y ≤ reachBytes) →
    ∃ xs svs, DTs C tss.flatten xs ∧ (∀ rest : List D, resBack nmE q (((ts.zip tss).map fun p => parOf C p.1 p.2).map PK.asRK) (xs ++ rest) = some (svs, [], rest)) ∧ ∀ (h : Hp) (μ : Mu), SVsRep C W (· < W.heap.size) h μ svs vs
  | [], tss, [], [], ps, q, ht, hm, _, _, _ => by
    simp only [List.mapM_nil, Option.pure_def, Option.some.injEq] at hm
    subst hm
    exact ⟨[], [], .nil, fun rest => rfl, fun h μ => .nil⟩
  | [], tss, _ :: _, _, ps, q, ht, _, _, _, _ => by cases ht
  | [], tss, [], _ :: _, ps, q, ht, _, _, _, _ => by cases ht
  | _ :: _, tss, [], _, ps, q, ht, _, _, _, _ => by cases ht
  | _ :: _, tss, _ :: _, [], ps, q, ht, _, _, _, _ => by cases ht
  | t :: ts, tss, v :: vs, d :: ds, ps, q, ht, hm, ho, hv, hw => by
    obtain ⟨p, p', ⟨n, h1⟩, h2, rfl⟩ := ht
    rw [List.mapM_cons] at hm
    simp only [Option.bind_eq_bind, Option.bind_eq_some_iff, Option.pure_def, Option.some.injEq] at hm
    obtain ⟨us, hus, tss', htss, rfl⟩ := hm
    obtain ⟨us', x0, e1, e2, e3⟩ := open_rep hC h1 (ho t (by simp)) (fun y hy => hw y (by simp only [DataW.weightsEach, List.mem_append]; exact .inl hy))
    rw [hus] at e1
    injection e1 with e1
    subst e1
    obtain ⟨xs, svs, f1, f2, f3⟩ := args_open hC ts tss' vs ds p' (q + 1000) h2 htss (fun t ht => ho t (by simp [ht])) (fun j t v hj hj' => hv (j + 1) t v (by simpa using hj) (by simpa using hj')) (fun y hy => hw y (by simp only [DataW.weightsEach, List.mem_append]; exact .inr hy))
    have hlen : x0.length = us.length := e3.lens
    have hcb : ∀ rest : List D, cellsBack nmE q (us.map fun t => (t, false)) (((x0 ++ xs) ++ rest).take us.length) = (dCells us x0, []) := fun rest => by
      rw [List.append_assoc, ← hlen, List.take_left]
      exact cellsBack_data nmE us q x0 hlen
    have hdr : ∀ rest : List D, ((x0 ++ xs) ++ rest).drop us.length = xs ++ rest := fun rest => by rw [List.append_assoc, ← hlen, List.drop_left]
    have hnl : ∀ rest : List D, ¬ ((x0 ++ xs) ++ rest).length < us.length := fun rest => by simp [hlen]
    have hdt : DTs C ((us :: tss').flatten) (x0 ++ xs) := by rw [List.flatten_cons]; exact e3.append f1
    rcases one_cells (ho t (by simp)) (hv 0 t v rfl rfl) with ⟨ha, cs, rfl⟩ | ⟨ha, hc⟩
    · refine ⟨x0 ++ xs, .agg (dCells us x0) :: svs, hdt, fun rest => ?_, fun h μ => ?_⟩
      · have f2' := f2 rest
        simp only [parOf] at f2'
        simp only [List.zip_cons_cons, List.map_cons, parOf, ha, PK.asRK, resBack, List.length_map, hcb, hdr, f2', if_true]
        rw [if_neg (hnl rest)]
        rfl
      · have := SVRep.agg (C := C) (w := W) (S := (· < W.heap.size)) (h := h) (μ := μ) (dCells us x0) us cs.toList (e2.cells)
        simp only [Array.toArray_toList] at this
        exact .cons _ _ _ _ this (f3 h μ)
    · obtain ⟨ty, hty⟩ := opens_one (ho t (by simp)) ha
      rw [hus] at hty
      injection hty with hty
      subst hty
      rw [hc] at e2
      match x0, hlen with
      | [y], _ =>
      refine ⟨[y] ++ xs, .c (.d ty y) :: svs, hdt, fun rest => ?_, fun h μ => ?_⟩
      · have f2' := f2 rest
        simp only [parOf] at f2'
        have a1 : ¬ ([y] ++ xs ++ rest).length < [(ty, false)].length := by simp
        have a2 : List.drop [(ty, false)].length ([y] ++ xs ++ rest) = xs ++ rest := rfl
        have a3 : cellsBack nmE q [(ty, false)] (List.take [(ty, false)].length ([y] ++ xs ++ rest)) = (dCells [ty] [y], []) := hcb rest
        simp only [List.zip_cons_cons, List.map_cons, List.map_nil, parOf, ha, PK.asRK, resBack]
        rw [if_neg a1, a2, a3, f2']
        rfl
      · have e2 : RepRow C W (· < W.heap.size) [ty] [y] [v] := e2
        generalize hLL : [v] = LL at e2
        cases e2 with
        | cons _ _ _ _ c1 c2 hr hs =>
        cases hs
        rw [List.append_nil] at hLL
        subst hLL
        exact .cons _ _ _ _ (.c _ ty _ (.d ty y _ hr)) (f3 h μ)
/-- The law's call. -/
theorem law_calls {T : Nat → Option Tree} {nat : Vt} (hB : Base C T nat) {f : Nat} {sg : Sig} {ts : List TypeId} {tss : List (List Ty)} (hsg : C.sig f = some sg) (hres : sg.results = [.val false [(.bool, false)]]) (hts : ts.mapM C.tab = some tss)
    (hpar : sg.params = (ts.zip tss).map fun p => parOf C p.1 p.2) (hop : ∀ t ∈ ts, opens C 8 t = true) (hlaw : ∀ xs, DTs C tss.flatten xs → Gets C T nat f xs (· = [.bool true])) {r : Reach} {base : Nat} {args : Array Value} {ds : List (DataW H)} {ps : List MemPlace}
    (ht : DataW.TrodAll enc C.P W 0 (fun _ => true) true ts args.toList ds ps) (hv : ∀ (j : Nat) (t : TypeId) (v : Value), ts[j]? = some t → args[j]? = some v → Value.okWide C.P W r base t v) (hw : ∀ y ∈ DataW.weightsEach C.P ts ds, y ≤ reachBytes) :
    Calls C.P f args W fun e W' => e = .returned (.bool true) ∧ Below W.heap.size W W' := by
  obtain ⟨xs, svs, h1, h2, h3⟩ := args_open hB.hC ts tss args.toList ds ps 0 ht hts hop (fun j t v hj hj' => hv j t v hj (by simpa using hj')) hw
  obtain ⟨ys, hret, rfl⟩ := hlaw xs h1
  have hok : CallOk C f xs [.bool true] := by
    cases hret with
    | tree hT h => exact callOk hB hT h
    | nat h => exact (hB.hn _ _ _ h).1
  obtain ⟨_, hc⟩ := hok sg hsg
  have h2' := h2 []
  rw [List.append_nil, ← hpar] at h2'
  have HR : RH C W (· < W.heap.size) (Mof (Upd.ap [] hN) fun _ => .nilFunc) (· < W.heap.size) (fun _ => .nilFunc) (Upd.ap [] hN) W :=
    ⟨fun n o h => (by cases h), fun n m o o' _ h => (by cases h), fun n o b h => (by cases h), fun b h => h, fun b h => .inl h, fun b h => h, Nat.le_refl _, fun b _ _ => rfl, rfl, rfl, rfl⟩
  have := hc svs [] h2' W (· < W.heap.size) (fun _ => .nilFunc) args.toList HR (h3 _ _)
  rw [Array.toArray_toList] at this
  refine this.mono fun e W' he => ?_
  obtain ⟨vals, S', μ', h', nss, rfl, HX, _, _, hA⟩ := he
  have hbp : boxPKs sg.params = [] := by
    rw [hpar]
    unfold boxPKs
    rw [List.filter_eq_nil_iff]
    intro p hp
    obtain ⟨q, _, rfl⟩ := List.mem_map.1 hp
    simp [parOf]
  have hbv : ∀ (l : List (TypeId × List Ty)) (vs : List Value), boxVals (l.map fun p => parOf C p.1 p.2) vs = [] := fun l => by
    induction l with
    | nil => intro vs; cases vs <;> rfl
    | cons p l ih => intro vs; cases vs with
      | nil => rfl
      | cons v vs => exact ih vs
  rw [hbp, hres, List.append_nil, hpar, hbv, List.append_nil] at hA
  have hvals : vals = [.bool true] := by
    generalize hY : ([D.bool true] : List D) = Y at hA
    cases hA with
    | one ocs xs ys v vs ns ps nss ho hs hl =>
    cases hs
    generalize hvv : [v] = vv at ho
    cases ho with
    | d t x c1 c2 ocs xs ns hr hs =>
    cases hs
    simp only [List.append_nil] at hY hvv
    injection hY with hY
    subst hY
    cases hr
    injection hvv with hvv
    try subst hvv
    rfl
  subst hvals
  exact ⟨rfl, HX.os, HX.tape, HX.output, HX.size, fun k hk => HX.keep k hk fun ⟨n, o, h, _⟩ => by cases h⟩
theorem trodAll_below {P : Program} {W W' : World} (hl : laidOutB P = true) (hb : Below W.heap.size W W') : ∀ {ts : List TypeId} {vs : List Value} {ds : List (DataW H)} {ps : List MemPlace}, (∀ t ∈ ts, P.readableRec t = true ∧ t < P.types.size) → DataW.TrodAll enc P W 0 (fun _ => true) true ts vs ds ps → (∀ x ∈ ps, x.block < W.heap.size) →
    DataW.TrodAll enc P W' 0 (fun b => decide (b < W.heap.size)) true ts vs ds ps
  | [], [], [], ps, _, h, _ => h
  | t :: ts, v :: vs, d :: ds, ps, ht, h, hlt => by
    obtain ⟨p, q, h1, h2, rfl⟩ := h
    exact ⟨p, q, Below.trod hl (ht t (by simp)).1 (ht t (by simp)).2 h1 hb (fun x hx => hlt x (by simp [hx])), trodAll_below hl hb (fun t h => ht t (by simp [h])) h2 (fun x hx => hlt x (by simp [hx])), rfl⟩
  | [], _ :: _, _, ps, _, h, _ => by cases h
  | [], [], _ :: _, ps, _, h, _ => by cases h
  | _ :: _, [], _, ps, _, h, _ => by cases h
  | _ :: _, _ :: _, [], ps, _, h, _ => by cases h
theorem trodAll_len {P : Program} {W : World} {base : Nat} {sp : Nat → Bool} {hd : Bool} : ∀ {ts : List TypeId} {vs : List Value} {ds : List (DataW H)} {ps : List MemPlace}, DataW.TrodAll enc P W base sp hd ts vs ds ps → ds.length = ts.length
  | [], [], [], ps, h => rfl
  | t :: ts, v :: vs, d :: ds, ps, h => by
    obtain ⟨p, q, h1, h2, rfl⟩ := h
    simp [trodAll_len h2]
  | [], _ :: _, _, ps, h => by cases h
  | [], [], _ :: _, ps, h => by cases h
  | _ :: _, [], _, ps, h => by cases h
  | _ :: _, _ :: _, [], ps, h => by cases h
/-- The law's row, from its call. -/
theorem law_row {T : Nat → Option Tree} {nat : Vt} (hB : Base C T nat) {f : Nat} {fn : Func} {s : ChangeSpec} {sg : Sig} {tss : List (List Ty)} {bt : TypeId} (hsg : C.sig f = some sg) (hres : sg.results = [.val false [(.bool, false)]]) (hts : fn.params.toList.mapM C.tab = some tss)
    (hpar : sg.params = (fn.params.toList.zip tss).map fun p => parOf C p.1 p.2) (hop : ∀ t ∈ fn.params.toList, opens C 8 t = true) (hlaw : ∀ xs, DTs C tss.flatten xs → Gets C T nat f xs (· = [.bool true]))
    (hrt : fn.resultTypes = #[bt]) (hbt : C.P.underlying bt = some .bool) (hvars : s.vars = []) (hs : ∀ ds : List (DataW H), ds.length = fn.params.toList.length → s.fn H ds = { results := [.lit (.bool true)], args := ds })
    (hl : laidOutB C.P = true) (hrd : ∀ t ∈ fn.params.toList, C.P.readableRec t = true ∧ t < C.P.types.size) {r : Reach} {base : Nat} {args : Array Value} {ds gs : List (DataW H)} {before : List MemPlace}
    (hW : DataW.Whole enc C.P fn.params.toList s.vars false W args.toList ds gs before) (hv : ∀ (j : Nat) (t : TypeId) (v : Value), fn.params[j]? = some t → args[j]? = some v → Value.okWide C.P W r base t v)
    (hw : (DataW.weightsEach C.P (fn.params.toList ++ s.plain.varTypes C.P) (ds ++ gs)).all (· ≤ reachBytes) = true) :
    Calls C.P f args W fun e W' => ∃ v, e = .returned v ∧ s.post enc C.P fn false true false false W args v W' := by
  have hW0 := hW
  obtain ⟨p, q, hA, hVr, rfl, hfz, hnd⟩ := hW
  rw [hvars] at hVr
  obtain ⟨rfl, rfl⟩ := trodVars_none hVr
  have hdl := trodAll_len hA
  have hweights : ∀ y ∈ DataW.weightsEach C.P fn.params.toList ds, y ≤ reachBytes := fun y hy => by
    have := List.all_eq_true.1 hw y ?_
    · simpa using this
    · rw [List.append_nil]
      have key : ∀ (ts us : List TypeId) (ds : List (DataW H)), y ∈ DataW.weightsEach C.P ts ds → y ∈ DataW.weightsEach C.P (ts ++ us) ds := fun ts => by
        induction ts with
        | nil => intro us ds h; cases ds <;> simp [DataW.weightsEach] at h
        | cons t ts ih =>
          intro us ds h
          cases ds with
          | nil => simp [DataW.weightsEach] at h
          | cons d ds =>
            simp only [List.cons_append, DataW.weightsEach, List.mem_append] at h ⊢
            exact h.imp id (ih us ds)
      exact key _ _ _ hy
  refine (law_calls hB hsg hres hts hpar hop hlaw hA (fun j t v hj hj' => hv j t v (by simpa using hj) hj') hweights).mono fun e W' ⟨he, hb⟩ => ?_
  subst he
  have hlt : ∀ x ∈ p ++ [], x.block < W.heap.size := fun x hx => by simpa using hW0.lt x hx
  refine ⟨_, rfl, ds, [], p ++ [], [], p, [], hW0, ?_, ?_, ?_, hb.frame _, fun h => by cases h⟩
  · rw [List.append_nil, hs ds hdl, hrt]
    exact trodAll_mk1 (shut_bool hbt _)
  · rw [List.append_nil, hs ds hdl]
    exact trodAll_below hl hb hrd hA (fun x hx => hlt x (by simp [hx]))
  · rw [hvars]
    rw [List.append_nil, hs ds hdl]
    rfl
end
end Go.Fw
/- The framework, part 43: contracts that were walked by hand, as contracts of the framework. -/
namespace Go.Fw
open Alg Go.RowKit
theorem RH.below {C : Cx} {w0 : World} {S0 M0 S : Nat → Prop} {μ : Mu} {h : Hp} {w w' : World} (H : RH C w0 S0 M0 S μ h w) (hb : Below w.heap.size w w') : RH C w0 S0 M0 (fun b => S b ∨ False) μ h w' :=
  (H.grow (fun _ => False) ⟨hb.os, hb.tape, hb.output, hb.size, fun k hk _ => hb.block k hk⟩ (fun b h => h.elim)).1
theorem enters_body {P : Program} {f : Nat} {fn : Func} (hf : P.funcs[f]? = some fn) (hb : fn.body.isSome = true) (hname : (fn.name == "runtime.NumGoroutine") = false) : ∀ args w, (callFunc f args).run P w = .ok (.enter f args) w := fun args w => by
  unfold callFunc
  have hb : fn.body.isNone = false := by cases h : fn.body <;> simp_all
  simp only [Sem.run_bind, run_program, Result.andThen_ok, hf, hb, hname, if_false, Bool.false_eq_true, Sem.run_pure]
/-- A function that leads to no memory of its callers: what it returns, and that nothing that was there turns. -/
theorem callOk_plain {C : Cx} {f : Nat} {sg : Sig} {xs ys : List D} {vs : List (SV D)} {cvals vals : List Value} {nss : List (List Name × Option Name)} (hsg : C.sig f = some sg) (hent : ∀ args w, (callFunc f args).run C.P w = .ok (.enter f args) w) (hbox : boxPKs sg.params = [])
    (hbv : ∀ vs, boxVals sg.params vs = []) (hrb : resBack nmE 0 (sg.params.map PK.asRK) xs = some (vs, [], [])) (hargs : ∀ w S h μ cargs, SVsRep C w S h μ vs cargs → cargs = cvals) (hn : srcNames nss = []) (hres : ∀ w S h μ, ArgsRep C w S h μ (sg.results.map RK.asPK) ys vals nss)
    (hcall : ∀ w, Calls C.P f cvals.toArray w fun e w' => e = .returned (tupV vals) ∧ Below w.heap.size w w') : CallOk C f xs ys := by
  intro sg' hsg'
  rw [hsg] at hsg'
  injection hsg' with hsg'
  subst hsg'
  refine ⟨hent, fun vs' u hvs w S μ cargs H hv => ?_⟩
  rw [hrb] at hvs
  injection hvs with hvs
  simp only [Prod.mk.injEq, and_true] at hvs
  obtain ⟨rfl, rfl⟩ := hvs
  have := hargs _ _ _ _ _ hv
  subst this
  refine (hcall w).mono fun e w' he => ?_
  obtain ⟨rfl, hb⟩ := he
  refine ⟨vals, _, μ, _, nss, rfl, H.below hb, by rw [hn]; exact .nil, fun n hm => ?_, ?_⟩
  · have : n ∈ srcNames nss := List.mem_append.2 (.inl hm)
    rw [hn] at this
    cases this
  · rw [hbox, hbv, List.append_nil, List.append_nil]
    exact hres _ _ _ _
end Go.Fw
