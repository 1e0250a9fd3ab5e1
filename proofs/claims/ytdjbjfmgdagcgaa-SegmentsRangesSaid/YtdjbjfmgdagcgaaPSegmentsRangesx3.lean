-- PRINTED BY print.sh 35421559b90ae4d0a3588c463048766b98c2df88dd9212a6774a882060cdf62d: not written by this session
import Derived.Test.YtdjbjfmgdagcgaaPSegmentsRangesx0
import Derived.Test.YtdjbjfmgdagcgaaPSegmentsRangesx1
import Derived.Test.YtdjbjfmgdagcgaaPSegmentsRangesx2
namespace Go.Proofs.Ytdjbjfmgdagcgaa.PSegmentsRanges
open Go.RowKit Go.Proofs.YtdjbjfmgdagcgaaW.PrintWords Go.Proofs.YtdjbjfmgdagcgaaW.PrintLast Go.Proofs.YtdjbjfmgdagcgaaW.PrintMore
attribute [local go_sem] max2_int min2_int max_two min_two max_three min_three max_four min_four   -- for this text's walks alone
set_option linter.unusedVariables false
set_option linter.unusedSimpArgs false

/-! ### pagemendlaw34_SegmentsRanges: function 3 -/
mutual
def pagemendlaw34_SegmentsRanges.l0 : Nat → Int → Int → Int → Int → Bool → List Bool → List Int → Option (Bool)
  | 0, _, _, _, _, _, _, _ => none
  | k + 1, x3, x5, x6, x7, x144000, x144001, x144002 => if x7 < (x144001.length : Int) then ((segments_Range.f x3 x7).bind fun bt147 => (if bt147.2.2 = true then (if bt147.1 = x6 then (if bt147.2.1 < bt147.1 then (pagemendlaw34_SegmentsRanges.j1 k x3 x5 x7 bt147.1 bt147.2.1 true x144000 x144001 x144002) else (pagemendlaw34_SegmentsRanges.j1 k x3 x5 x7 bt147.1 bt147.2.1 (decide ((wrap64 (bt147.2.1 - bt147.1)) ≥ 4)) x144000 x144001 x144002)) else (pagemendlaw34_SegmentsRanges.j1 k x3 x5 x7 bt147.1 bt147.2.1 true x144000 x144001 x144002)) else (pagemendlaw34_SegmentsRanges.j1 k x3 x5 x7 bt147.1 bt147.2.1 true x144000 x144001 x144002))) else ((segments_Range.f x3 (x144001.length : Int)).bind fun bt144 => (if x5 = 0 then (if x6 = x3 then (some (!bt144.2.2)) else (some false)) else (some false)))
def pagemendlaw34_SegmentsRanges.j1 : Nat → Int → Int → Int → Int → Int → Bool → Bool → List Bool → List Int → Option (Bool)
  | 0, _, _, _, _, _, _, _, _, _ => none
  | k + 1, x3, x5, x7, x8, x9, x57, x144000, x144001, x144002 => if x57 = true then (some false) else (pagemendlaw34_SegmentsRanges.l1 k x3 x5 x7 x9 x8 x144000 x144001 x144002)
def pagemendlaw34_SegmentsRanges.l1 : Nat → Int → Int → Int → Int → Int → Bool → List Bool → List Int → Option (Bool)
  | 0, _, _, _, _, _, _, _, _ => none
  | k + 1, x3, x5, x7, x9, x11, x144000, x144001, x144002 => if x11 ≤ x9 then ((segments_Of.f x11).bind fun t150 => (if t150 = x7 then ((segments_There.f k x144000 x144001 x144002 x11).bind fun t151 => (if t151 = true then (some false) else (pagemendlaw34_SegmentsRanges.l1 k x3 x5 x7 x9 (wrap64 (x11 + 1)) x144000 x144001 x144002))) else (some false))) else (pagemendlaw34_SegmentsRanges.l0 k x3 x5 (wrap64 (x9 + 1)) (wrap64 (x7 + 1)) x144000 x144001 x144002)
end
def pagemendlaw34_SegmentsRanges.f (k : Nat) (a0 : Int) : Option (Bool) := (pagemendlaw34_awake.f).bind fun t134 => (if t134 = true then ((segments_New.f (wrap64 (1 + (Int.tmod (wrap64 (a0)) 64)))).bind fun bt135 => (pagemendlaw34_SegmentsRanges.l0 k (wrap64 (1 + (Int.tmod (wrap64 (a0)) 64))) bt135.2.2.2 0 0 bt135.1 bt135.2.1 bt135.2.2.1)) else (some false))
theorem pagemendlaw34_SegmentsRanges.mono_l : ∀ k, (∀ y0 y1 y2 y3 y4 y5 y6, LeO (pagemendlaw34_SegmentsRanges.l0 k y0 y1 y2 y3 y4 y5 y6) (pagemendlaw34_SegmentsRanges.l0 (k + 1) y0 y1 y2 y3 y4 y5 y6)) ∧ (∀ y0 y1 y2 y3 y4 y5 y6 y7 y8, LeO (pagemendlaw34_SegmentsRanges.j1 k y0 y1 y2 y3 y4 y5 y6 y7 y8) (pagemendlaw34_SegmentsRanges.j1 (k + 1) y0 y1 y2 y3 y4 y5 y6 y7 y8)) ∧ (∀ y0 y1 y2 y3 y4 y5 y6 y7, LeO (pagemendlaw34_SegmentsRanges.l1 k y0 y1 y2 y3 y4 y5 y6 y7) (pagemendlaw34_SegmentsRanges.l1 (k + 1) y0 y1 y2 y3 y4 y5 y6 y7))
  | 0 => ⟨fun _ _ _ _ _ _ _ r h => by simp [pagemendlaw34_SegmentsRanges.l0] at h, fun _ _ _ _ _ _ _ _ _ r h => by simp [pagemendlaw34_SegmentsRanges.j1] at h, fun _ _ _ _ _ _ _ _ r h => by simp [pagemendlaw34_SegmentsRanges.l1] at h⟩
  | k + 1 => by
    obtain ⟨ih0, ih1, ih2⟩ := pagemendlaw34_SegmentsRanges.mono_l k
    refine ⟨?_, ?_, ?_⟩
    · intro y0 y1 y2 y3 y4 y5 y6
      unfold pagemendlaw34_SegmentsRanges.l0
      repeat' first
      | (with_reducible exact ih0 _ _ _ _ _ _ _)
      | (with_reducible exact ih1 _ _ _ _ _ _ _ _ _)
      | (with_reducible exact ih2 _ _ _ _ _ _ _ _)
      | (with_reducible exact segments_There.mono _ _ _ _ _)
      | (with_reducible exact LeO.refl _)
      | (with_reducible exact LeO.none _)
      | (with_reducible refine LeO.ite ?_ ?_)
      | (with_reducible refine LeO.bind ?_ (fun _ => ?_))
      | exact ih0 _ _ _ _ _ _ _
      | exact ih1 _ _ _ _ _ _ _ _ _
      | exact ih2 _ _ _ _ _ _ _ _
      | exact segments_There.mono _ _ _ _ _
      | exact LeO.none _
      | refine LeO.ite ?_ ?_
      | refine LeO.bind ?_ (fun _ => ?_)
    · intro y0 y1 y2 y3 y4 y5 y6 y7 y8
      unfold pagemendlaw34_SegmentsRanges.j1
      repeat' first
      | (with_reducible exact ih0 _ _ _ _ _ _ _)
      | (with_reducible exact ih1 _ _ _ _ _ _ _ _ _)
      | (with_reducible exact ih2 _ _ _ _ _ _ _ _)
      | (with_reducible exact segments_There.mono _ _ _ _ _)
      | (with_reducible exact LeO.refl _)
      | (with_reducible exact LeO.none _)
      | (with_reducible refine LeO.ite ?_ ?_)
      | (with_reducible refine LeO.bind ?_ (fun _ => ?_))
      | exact ih0 _ _ _ _ _ _ _
      | exact ih1 _ _ _ _ _ _ _ _ _
      | exact ih2 _ _ _ _ _ _ _ _
      | exact segments_There.mono _ _ _ _ _
      | exact LeO.none _
      | refine LeO.ite ?_ ?_
      | refine LeO.bind ?_ (fun _ => ?_)
    · intro y0 y1 y2 y3 y4 y5 y6 y7
      unfold pagemendlaw34_SegmentsRanges.l1
      repeat' first
      | (with_reducible exact ih0 _ _ _ _ _ _ _)
      | (with_reducible exact ih1 _ _ _ _ _ _ _ _ _)
      | (with_reducible exact ih2 _ _ _ _ _ _ _ _)
      | (with_reducible exact segments_There.mono _ _ _ _ _)
      | (with_reducible exact LeO.refl _)
      | (with_reducible exact LeO.none _)
      | (with_reducible refine LeO.ite ?_ ?_)
      | (with_reducible refine LeO.bind ?_ (fun _ => ?_))
      | exact ih0 _ _ _ _ _ _ _
      | exact ih1 _ _ _ _ _ _ _ _ _
      | exact ih2 _ _ _ _ _ _ _ _
      | exact segments_There.mono _ _ _ _ _
      | exact LeO.none _
      | refine LeO.ite ?_ ?_
      | refine LeO.bind ?_ (fun _ => ?_)
theorem pagemendlaw34_SegmentsRanges.mono : ∀ a0 k, LeO (pagemendlaw34_SegmentsRanges.f k a0) (pagemendlaw34_SegmentsRanges.f (k + 1) a0) := by
  intro a0 k
  obtain ⟨ih0, ih1, ih2⟩ := pagemendlaw34_SegmentsRanges.mono_l k
  unfold pagemendlaw34_SegmentsRanges.f
  repeat' first
      | (with_reducible exact ih0 _ _ _ _ _ _ _)
      | (with_reducible exact ih1 _ _ _ _ _ _ _ _ _)
      | (with_reducible exact ih2 _ _ _ _ _ _ _ _)
      | (with_reducible exact segments_There.mono _ _ _ _ _)
      | (with_reducible exact LeO.refl _)
      | (with_reducible exact LeO.none _)
      | (with_reducible refine LeO.ite ?_ ?_)
      | (with_reducible refine LeO.bind ?_ (fun _ => ?_))
      | exact ih0 _ _ _ _ _ _ _
      | exact ih1 _ _ _ _ _ _ _ _ _
      | exact ih2 _ _ _ _ _ _ _ _
      | exact segments_There.mono _ _ _ _ _
      | exact LeO.none _
      | refine LeO.ite ?_ ?_
      | refine LeO.bind ?_ (fun _ => ?_)
set_option maxHeartbeats 8000000 in
set_option maxRecDepth 100000 in
theorem pagemendlaw34_SegmentsRanges.calls (k : Nat) (a0 : Int) (r : Bool) (w : World) (h : pagemendlaw34_SegmentsRanges.f k a0 = some r) :
    Calls Try.prog 3 #[.int .u8 a0] w fun e w' => e = .returned (.bool r) ∧ Below w.heap.size w w' := by
  have hu26 := Try.underlying26
  have HB := Aside0.mk (Below.refl w.heap.size w)
  have H : ((pagemendlaw34_awake.f).bind fun t134 => (if t134 = true then ((segments_New.f (wrap64 (1 + (Int.tmod (wrap64 (a0)) 64)))).bind fun bt135 => (pagemendlaw34_SegmentsRanges.l0 k (wrap64 (1 + (Int.tmod (wrap64 (a0)) 64))) bt135.2.2.2 0 0 bt135.1 bt135.2.1 bt135.2.2.1)) else (some false))) = some r := h
  clear h
  replace H := Option.bind_eq_some_iff.mp H
  obtain ⟨t134, A20, H⟩ := H
  replace H : (if t134 = true then ((segments_New.f (wrap64 (1 + (Int.tmod (wrap64 (a0)) 64)))).bind fun bt135 => (pagemendlaw34_SegmentsRanges.l0 k (wrap64 (1 + (Int.tmod (wrap64 (a0)) 64))) bt135.2.2.2 0 0 bt135.1 bt135.2.1 bt135.2.2.1)) else (some false)) = some r := H
  have A2 := Aside0.mk A20
  clear A20
  by_cases c3 : t134 = true
  · subst c3
    have H1 : ((segments_New.f (wrap64 (1 + (Int.tmod (wrap64 (a0)) 64)))).bind fun bt135 => (pagemendlaw34_SegmentsRanges.l0 k (wrap64 (1 + (Int.tmod (wrap64 (a0)) 64))) bt135.2.2.2 0 0 bt135.1 bt135.2.1 bt135.2.2.1)) = some r := by rw [if_pos rfl] at H; exact H
    clear H
    have H := H1
    clear H1
    replace H := Option.bind_eq_some_iff.mp H
    obtain ⟨⟨t135, t136, t139, t142⟩, A40, H⟩ := H
    replace H : (pagemendlaw34_SegmentsRanges.l0 k (wrap64 (1 + (Int.tmod (wrap64 (a0)) 64))) t142 0 0 t135 t136 t139) = some r := H
    have A4 := Aside0.mk A40
    clear A40
    have H' := Aside0.mk H
    clear H
    go_enter Try.func3, Try.ntmps3
    go_wp2_with (first | ((with_reducible refine gate_callee (f := 16) rfl ?_); refine goesL_ (some 15) rfl rfl Try.func16 (by kernel_rfl) rfl #[] rfl (by (try simp only [List.map_toArray, List.map_cons, List.map_nil]); first | done | rfl | (simp only [List.length_drop, List.length_take]; rfl)) ?_; (with_reducible refine (pagemendlaw34_awake.calls  true _ A2.out).mono ?_); rintro e w5 ⟨rfl, hb⟩; refine ⟨_, rfl, ?_⟩; have n0_ := Aside0.mk (below_step (by repeat (first | (with_reducible first | exact HB.out | apply below_alloc | apply pw_below_drewN | apply below_drew1) | exact HB.out)) hb); clear HB; have HB := n0_; clear n0_; (try clear hb); (try clear hb2); (try clear hk); (try clear hi)) | ((with_reducible refine gate_callee (f := 17) rfl ?_); refine goesL_ (some 23) rfl rfl Try.func17 (by kernel_rfl) rfl #[.int .i64 (wrap64 (1 + (Int.tmod (wrap64 (a0)) 64)))] rfl (by (try simp only [List.map_toArray, List.map_cons, List.map_nil]); first | done | rfl | (simp only [List.length_drop, List.length_take]; rfl)) ?_; (with_reducible refine (segments_New.calls (wrap64 (1 + (Int.tmod (wrap64 (a0)) 64))) t135 t136 t139 t142 _ A4.out).mono ?_); rintro e w6 ⟨v137, v140, rfl, ho0, ho1, hb⟩; refine ⟨_, rfl, ?_⟩; have n0_ := Aside0.mk (Kd.R_lower ho0 (below_size (by repeat (first | (with_reducible first | exact HB.out | apply below_alloc | apply pw_below_drewN | apply below_drew1) | exact HB.out)))); have n1_ := Aside0.mk (Kd.R_lower ho1 (below_size (by repeat (first | (with_reducible first | exact HB.out | apply below_alloc | apply pw_below_drewN | apply below_drew1) | exact HB.out)))); have n2_ := Aside0.mk (below_step (by repeat (first | (with_reducible first | exact HB.out | apply below_alloc | apply pw_below_drewN | apply below_drew1) | exact HB.out)) hb); clear HB; have HO138 := n0_; have HO141 := n1_; have HB := n2_; clear n0_ n1_ n2_; (try clear hb); (try clear hb2); (try clear hk); (try clear hi); (try clear ho0); (try clear ho1)) | ((with_reducible refine gate_dst (N := 4) rfl ?_); refine box_event ?hg (N := 4) ?hd (cs := #[.bool false, .slice none 0 0, .slice none 0 0]) (t := 26) ?hr ?_; (case hd => rfl); (case hg => rfl); (case hr => first | (go_simp; done) | (go_simp; rfl)); intro gb143 hg w7 hbox hb; have n0_ := Aside0.mk (Kd.R_below (by (with_reducible repeat (first | apply Kd.R_alloc | apply Kd.R_drewN | apply Kd.R_drew)); exact HO138.out) hb); have n1_ := Aside0.mk (Kd.R_below (by (with_reducible repeat (first | apply Kd.R_alloc | apply Kd.R_drewN | apply Kd.R_drew)); exact HO141.out) hb); have n2_ := Aside0.mk (below_step (by repeat (first | (with_reducible first | exact HB.out | apply below_alloc | apply pw_below_drewN | apply below_drew1) | exact HB.out)) hb); have n3_ := Aside0.mk (hbox); have n4_ := Aside0.mk ((by rw [hg]; exact (below_size (by repeat (first | (with_reducible first | exact HB.out | apply below_alloc | apply pw_below_drewN | apply below_drew1) | exact HB.out))) : w.heap.size ≤ gb143)); have n5_ := Aside0.mk ((by rw [hg]; exact (below_size (by repeat (first | (with_reducible first | exact HB.out | apply below_alloc | apply pw_below_drewN | apply below_drew1) | exact HB.out))) : w.heap.size ≤ gb143)); clear HO138; clear HO141; clear HB; have HO138 := n0_; have HO141 := n1_; have HB := n2_; have BK143 := n3_; have GW143 := n4_; have GE143 := n5_; clear n0_ n1_ n2_ n3_ n4_ n5_; clear hb hbox hg; have hcz8_0 : w7.cell? ⟨gb143, 0, none⟩ = some (.bool false) := (blk_cell BK143.out 0).trans rfl; have hcz8_1 : w7.cell? ⟨gb143, 1, none⟩ = some (.slice none 0 0) := (blk_cell BK143.out 1).trans rfl; have hcz8_2 : w7.cell? ⟨gb143, 2, none⟩ = some (.slice none 0 0) := (blk_cell BK143.out 2).trans rfl; have hfz8_0 := blk_frozen BK143.out 0; have hfz8_1 := blk_frozen BK143.out 1; have hfz8_2 := blk_frozen BK143.out 2; obtain ⟨Ao9, co9, eo9⟩ := Kd.R_slice HO138.out; subst eo9; obtain ⟨Ao10, co10, eo10⟩ := Kd.R_slice HO141.out; subst eo10))
    go_loopg [6, 7] k (fun kq v6 v7 w' => ∃ (x6_1 : Int) (x7_1 : Int), v6 = .int .i64 x6_1 ∧ v7 = .int .i64 x7_1 ∧ Aside0 (pagemendlaw34_SegmentsRanges.l0 kq (wrap64 (1 + (Int.tmod (wrap64 (a0)) 64))) t142 x6_1 x7_1 t135 t136 t139 = some r) ∧ Aside0 (kq ≤ k) ∧ Aside0 (Kd.R Kd.bool 4 w' w.heap.size (fun _ => True) (.slice Ao9 t136.length co9) t136) ∧ Aside0 (Kd.R (Kd.int .i64) 3 w' w.heap.size (fun _ => True) (.slice Ao10 t139.length co10) t139) ∧ Aside0 (w'.heap[gb143]? = some (.cells #[.bool t135, (.slice Ao9 t136.length co9), (.slice Ao10 t139.length co10)] 26 (0, 0))) ∧ Aside0 (Below w.heap.size w w'))
    case atStart => exact ⟨(0), (0), (by first | rfl | (simp; done) | (simp [*]; done)), (by first | rfl | (simp; done) | (simp [*]; done)), H', ⟨Nat.le_refl _⟩, ⟨by (with_reducible repeat (first | apply Kd.R_alloc | apply Kd.R_drewN | apply Kd.R_drew)); exact Kd.R_mono (Kd.R_far (p := ⟨gb143, 2, none⟩) (Kd.R_far (p := ⟨gb143, 1, none⟩) (Kd.R_far (p := ⟨gb143, 0, none⟩) (Kd.R_types HO138.out BK143.out (by decide)) (fun _ hk => hk.2) (.bool t135)) (fun _ hk => hk.2) (.slice Ao9 t136.length co9)) (fun _ hk => hk.2) (.slice Ao10 t139.length co10)) (fun _ hk => trivial)⟩, ⟨by (with_reducible repeat (first | apply Kd.R_alloc | apply Kd.R_drewN | apply Kd.R_drew)); exact Kd.R_mono (Kd.R_far (p := ⟨gb143, 2, none⟩) (Kd.R_far (p := ⟨gb143, 1, none⟩) (Kd.R_far (p := ⟨gb143, 0, none⟩) (Kd.R_types HO141.out BK143.out (by decide)) (fun _ hk => hk.2) (.bool t135)) (fun _ hk => hk.2) (.slice Ao9 t136.length co9)) (fun _ hk => hk.2) (.slice Ao10 t139.length co10)) (fun _ hk => trivial)⟩, ⟨by (with_reducible repeat (first | refine blk_drewN ?_ _ | refine blk_drew ?_ | refine blk_alloc ?_ _)); refine blk_put (cs := #[.bool t135, .slice Ao9 t136.length co9, .slice none 0 0]) ?_ 2 _ rfl; (with_reducible repeat (first | refine blk_drewN ?_ _ | refine blk_drew ?_ | refine blk_alloc ?_ _)); refine blk_put (cs := #[.bool t135, .slice none 0 0, .slice none 0 0]) ?_ 1 _ rfl; (with_reducible repeat (first | refine blk_drewN ?_ _ | refine blk_drew ?_ | refine blk_alloc ?_ _)); refine blk_put (cs := #[.bool false, .slice none 0 0, .slice none 0 0]) ?_ 0 _ rfl; (with_reducible repeat (first | refine blk_drewN ?_ _ | refine blk_drew ?_ | refine blk_alloc ?_ _)); exact BK143.out⟩, ⟨by repeat (first | (with_reducible first | exact HB.out | apply below_alloc | apply pw_below_drewN | apply below_drew1 | refine below_set ?_ GE143.out) | exact HB.out)⟩⟩
    case round =>
      clear H'
      try clear c1
      try clear p2
      try clear c3
      try clear p6
      try clear hcz8_0
      try clear hcz8_1
      try clear hcz8_2
      try clear hfz8_0
      try clear hfz8_1
      try clear hfz8_2
      obtain ⟨x6_1, x7_1, rfl, rfl, HA, HK1, HO_144001, HO_144002, BK143, HB⟩ := hrel
      cases gk with
      | zero => exact absurd HA.out (by simp [pagemendlaw34_SegmentsRanges.l0])
      | succ k1 =>
        have H := HA.out
        clear HA
        simp only [pagemendlaw34_SegmentsRanges.l0] at H
        by_cases c11 : x7_1 < (t136.length : Int)
        · rw [if_pos c11] at H
          have c11b0 : decide (x7_1 < (t136.length : Int)) = true := decide_eq_true c11
          clear c11
          replace H := Option.bind_eq_some_iff.mp H
          obtain ⟨⟨t147, t148, t149⟩, A120, H⟩ := H
          replace H : (if t149 = true then (if t147 = x6_1 then (if t148 < t147 then (pagemendlaw34_SegmentsRanges.j1 k1 (wrap64 (1 + (Int.tmod (wrap64 (a0)) 64))) t142 x7_1 t147 t148 true t135 t136 t139) else (pagemendlaw34_SegmentsRanges.j1 k1 (wrap64 (1 + (Int.tmod (wrap64 (a0)) 64))) t142 x7_1 t147 t148 (decide ((wrap64 (t148 - t147)) ≥ 4)) t135 t136 t139)) else (pagemendlaw34_SegmentsRanges.j1 k1 (wrap64 (1 + (Int.tmod (wrap64 (a0)) 64))) t142 x7_1 t147 t148 true t135 t136 t139)) else (pagemendlaw34_SegmentsRanges.j1 k1 (wrap64 (1 + (Int.tmod (wrap64 (a0)) 64))) t142 x7_1 t147 t148 true t135 t136 t139)) = some r := H
          have A12 := Aside0.mk A120
          clear A120
          have HC13 := Aside0.mk H
          clear H
          have hcz14_0 : wr.cell? ⟨gb143, 0, none⟩ = some (.bool t135) := (blk_cell BK143.out 0).trans rfl
          have hcz14_1 : wr.cell? ⟨gb143, 1, none⟩ = some (.slice Ao9 t136.length co9) := (blk_cell BK143.out 1).trans rfl
          have hcz14_2 : wr.cell? ⟨gb143, 2, none⟩ = some (.slice Ao10 t139.length co10) := (blk_cell BK143.out 2).trans rfl
          have hfz14_0 := blk_frozen BK143.out 0
          have hfz14_1 := blk_frozen BK143.out 1
          have hfz14_2 := blk_frozen BK143.out 2
          go_upto_region 10 with (first | ((with_reducible refine gate_callee (f := 18) rfl ?_); refine goesL_ (some 36) rfl rfl Try.func18 (by kernel_rfl) rfl #[.int .i64 (wrap64 (1 + (Int.tmod (wrap64 (a0)) 64))), .int .i64 x7_1] rfl (by (try simp only [List.map_toArray, List.map_cons, List.map_nil]); first | done | rfl | (simp only [List.length_drop, List.length_take]; rfl)) ?_; (with_reducible refine (segments_Range.calls (wrap64 (1 + (Int.tmod (wrap64 (a0)) 64))) x7_1 t147 t148 t149 _ A12.out).mono ?_); rintro e w15 ⟨rfl, hb⟩; refine ⟨_, rfl, ?_⟩; have n0_ := Aside0.mk (Kd.R_below (by (with_reducible repeat (first | apply Kd.R_alloc | apply Kd.R_drewN | apply Kd.R_drew)); exact HO_144001.out) hb); have n1_ := Aside0.mk (Kd.R_below (by (with_reducible repeat (first | apply Kd.R_alloc | apply Kd.R_drewN | apply Kd.R_drew)); exact HO_144002.out) hb); have n2_ := Aside0.mk (blk_below (g := gb143) (o := .cells #[.bool t135, .slice Ao9 t136.length co9, .slice Ao10 t139.length co10] 26 (0, 0)) (by (with_reducible repeat (first | refine blk_drewN ?_ _ | refine blk_drew ?_ | refine blk_alloc ?_ _)); exact BK143.out) hb); have n3_ := Aside0.mk (below_step (by repeat (first | (with_reducible first | exact HB.out | apply below_alloc | apply pw_below_drewN | apply below_drew1 | refine below_set ?_ GE143.out) | exact HB.out)) hb); clear HO_144001; clear HO_144002; clear BK143; clear HB; have HO_144001 := n0_; have HO_144002 := n1_; have BK143 := n2_; have HB := n3_; clear n0_ n1_ n2_ n3_; (try clear hb); (try clear hb2); (try clear hk); (try clear hi)))
          (try simp only [Act.put, List.setIfInBounds_toArray, List.set_cons_zero, List.set_cons_succ])
          go_cut [57] (fun v57 wc => ∃ (kq : Nat) (x57_12 : Bool), v57 = .bool x57_12 ∧ Aside0 (pagemendlaw34_SegmentsRanges.j1 kq (wrap64 (1 + (Int.tmod (wrap64 (a0)) 64))) t142 x7_1 t147 t148 x57_12 t135 t136 t139 = some r) ∧ Aside0 (kq ≤ k1) ∧ Aside0 (Kd.R Kd.bool 4 wc w.heap.size (fun _ => True) (.slice Ao9 t136.length co9) t136) ∧ Aside0 (Kd.R (Kd.int .i64) 3 wc w.heap.size (fun _ => True) (.slice Ao10 t139.length co10) t139) ∧ Aside0 (wc.heap[gb143]? = some (.cells #[.bool t135, (.slice Ao9 t136.length co9), (.slice Ao10 t139.length co10)] 26 (0, 0))) ∧ Aside0 (Below w.heap.size w wc))
          case first =>
            have H := HC13.out
            clear HC13
            by_cases c16 : t149 = true
            · subst c16
              have H1 : (if t147 = x6_1 then (if t148 < t147 then (pagemendlaw34_SegmentsRanges.j1 k1 (wrap64 (1 + (Int.tmod (wrap64 (a0)) 64))) t142 x7_1 t147 t148 true t135 t136 t139) else (pagemendlaw34_SegmentsRanges.j1 k1 (wrap64 (1 + (Int.tmod (wrap64 (a0)) 64))) t142 x7_1 t147 t148 (decide ((wrap64 (t148 - t147)) ≥ 4)) t135 t136 t139)) else (pagemendlaw34_SegmentsRanges.j1 k1 (wrap64 (1 + (Int.tmod (wrap64 (a0)) 64))) t142 x7_1 t147 t148 true t135 t136 t139)) = some r := by rw [if_pos rfl] at H; exact H
              clear H
              have H := H1
              clear H1
              by_cases c17 : t147 = x6_1
              · rw [if_pos c17] at H
                have c17b0 : (t147 == x6_1) = true := beq_iff_eq.mpr c17
                have c17b1 : (t147 != x6_1) = false := bne_eq_false_iff_eq.mpr c17
                clear c17
                (first | rw [c17b0] | (simp only [i64_w, i32_w]; rw [c17b0]) | skip)
                by_cases c18 : t148 < t147
                · rw [if_pos c18] at H
                  have c18b0 : decide (t148 < t147) = true := decide_eq_true c18
                  clear c18
                  have H' := Aside0.mk H
                  clear H
                  go_wp2
                  go_meet
                  case rel => exact ⟨_, (true), (by first | rfl | (simp; done) | (simp [*]; done)), H', ⟨by have := HK1.out; first | omega | exact Nat.le_refl _⟩, ⟨by (with_reducible repeat (first | apply Kd.R_alloc | apply Kd.R_drewN | apply Kd.R_drew)); exact HO_144001.out⟩, ⟨by (with_reducible repeat (first | apply Kd.R_alloc | apply Kd.R_drewN | apply Kd.R_drew)); exact HO_144002.out⟩, ⟨by (with_reducible repeat (first | refine blk_drewN ?_ _ | refine blk_drew ?_ | refine blk_alloc ?_ _)); exact BK143.out⟩, ⟨by repeat (first | (with_reducible first | exact HB.out | apply below_alloc | apply pw_below_drewN | apply below_drew1 | refine below_set ?_ GE143.out) | exact HB.out)⟩⟩
                · rw [if_neg c18] at H
                  have c18b0 : decide (t148 < t147) = false := decide_eq_false c18
                  clear c18
                  have H' := Aside0.mk H
                  clear H
                  go_wp2
                  go_meet
                  case rel => exact ⟨_, (decide ((wrap64 (t148 - t147)) ≥ 4)), (by first | rfl | (simp; done) | (simp [*]; done)), H', ⟨by have := HK1.out; first | omega | exact Nat.le_refl _⟩, ⟨by (with_reducible repeat (first | apply Kd.R_alloc | apply Kd.R_drewN | apply Kd.R_drew)); exact HO_144001.out⟩, ⟨by (with_reducible repeat (first | apply Kd.R_alloc | apply Kd.R_drewN | apply Kd.R_drew)); exact HO_144002.out⟩, ⟨by (with_reducible repeat (first | refine blk_drewN ?_ _ | refine blk_drew ?_ | refine blk_alloc ?_ _)); exact BK143.out⟩, ⟨by repeat (first | (with_reducible first | exact HB.out | apply below_alloc | apply pw_below_drewN | apply below_drew1 | refine below_set ?_ GE143.out) | exact HB.out)⟩⟩
              · rw [if_neg c17] at H
                have c17b0 : (t147 == x6_1) = false := beq_eq_false_iff_ne.mpr c17
                have c17b1 : (t147 != x6_1) = true := bne_iff_ne.mpr c17
                (first | rw [c17b0] | (simp only [i64_w, i32_w]; rw [c17b0]) | skip)
                have H' := Aside0.mk H
                clear H
                go_wp2
                go_meet
                case rel => exact ⟨_, (true), (by first | rfl | (simp; done) | (simp [*]; done)), H', ⟨by have := HK1.out; first | omega | exact Nat.le_refl _⟩, ⟨by (with_reducible repeat (first | apply Kd.R_alloc | apply Kd.R_drewN | apply Kd.R_drew)); exact HO_144001.out⟩, ⟨by (with_reducible repeat (first | apply Kd.R_alloc | apply Kd.R_drewN | apply Kd.R_drew)); exact HO_144002.out⟩, ⟨by (with_reducible repeat (first | refine blk_drewN ?_ _ | refine blk_drew ?_ | refine blk_alloc ?_ _)); exact BK143.out⟩, ⟨by repeat (first | (with_reducible first | exact HB.out | apply below_alloc | apply pw_below_drewN | apply below_drew1 | refine below_set ?_ GE143.out) | exact HB.out)⟩⟩
            · replace c16 := Bool.eq_false_iff.mpr c16
              subst c16
              have H1 : (pagemendlaw34_SegmentsRanges.j1 k1 (wrap64 (1 + (Int.tmod (wrap64 (a0)) 64))) t142 x7_1 t147 t148 true t135 t136 t139) = some r := by rw [if_neg (show ¬ (false = true) by decide)] at H; exact H
              clear H
              have H := H1
              clear H1
              have H' := Aside0.mk H
              clear H
              go_wp2
              go_meet
              case rel => exact ⟨_, (true), (by first | rfl | (simp; done) | (simp [*]; done)), H', ⟨by have := HK1.out; first | omega | exact Nat.le_refl _⟩, ⟨by (with_reducible repeat (first | apply Kd.R_alloc | apply Kd.R_drewN | apply Kd.R_drew)); exact HO_144001.out⟩, ⟨by (with_reducible repeat (first | apply Kd.R_alloc | apply Kd.R_drewN | apply Kd.R_drew)); exact HO_144002.out⟩, ⟨by (with_reducible repeat (first | refine blk_drewN ?_ _ | refine blk_drew ?_ | refine blk_alloc ?_ _)); exact BK143.out⟩, ⟨by repeat (first | (with_reducible first | exact HB.out | apply below_alloc | apply pw_below_drewN | apply below_drew1 | refine below_set ?_ GE143.out) | exact HB.out)⟩⟩
          case rest =>
            clear HC13
            try clear c1
            try clear p2
            try clear c3
            try clear p6
            try clear c11
            try clear c11b0
            try clear c16
            try clear c17
            try clear c17b0
            try clear c17b1
            try clear c18
            try clear c18b0
            try clear hcz14_0
            try clear hcz14_1
            try clear hcz14_2
            try clear hcz8_0
            try clear hcz8_1
            try clear hcz8_2
            try clear hfz14_0
            try clear hfz14_1
            try clear hfz14_2
            try clear hfz8_0
            try clear hfz8_1
            try clear hfz8_2
            try clear p2
            try clear p6
            obtain ⟨kq, x57_12, rfl, HA, HJ12, HO_144001, HO_144002, BK143, HB⟩ := hcut
            cases kq with
            | zero => exact absurd HA.out (by simp [pagemendlaw34_SegmentsRanges.j1])
            | succ kj12 =>
              have H := HA.out
              clear HA
              simp only [pagemendlaw34_SegmentsRanges.j1] at H
              by_cases c19 : x57_12 = true
              · subst c19
                have H1 : (some false) = some r := by rw [if_pos rfl] at H; exact H
                clear H
                have H := H1
                clear H1
                obtain rfl := Option.some.inj H
                go_wp2
                go_ret
                exact ⟨by first | rfl | (simp [errW_none, errW_some] <;> rfl) | (simp [*, errW_none, errW_some] <;> rfl), by repeat (first | (with_reducible first | exact HB.out | apply below_alloc | apply pw_below_drewN | apply below_drew1 | refine below_set ?_ GE143.out) | exact HB.out)⟩
              · replace c19 := Bool.eq_false_iff.mpr c19
                subst c19
                have H1 : (pagemendlaw34_SegmentsRanges.l1 kj12 (wrap64 (1 + (Int.tmod (wrap64 (a0)) 64))) t142 x7_1 t148 t147 t135 t136 t139) = some r := by rw [if_neg (show ¬ (false = true) by decide)] at H; exact H
                clear H
                have H := H1
                clear H1
                have H' := Aside0.mk H
                clear H
                go_wp2
                go_loopg [11] kj12 (fun kq v11 w' => ∃ (x11_3 : Int), v11 = .int .i64 x11_3 ∧ Aside0 (pagemendlaw34_SegmentsRanges.l1 kq (wrap64 (1 + (Int.tmod (wrap64 (a0)) 64))) t142 x7_1 t148 x11_3 t135 t136 t139 = some r) ∧ Aside0 (kq ≤ kj12) ∧ Aside0 (Kd.R Kd.bool 4 w' w.heap.size (fun _ => True) (.slice Ao9 t136.length co9) t136) ∧ Aside0 (Kd.R (Kd.int .i64) 3 w' w.heap.size (fun _ => True) (.slice Ao10 t139.length co10) t139) ∧ Aside0 (w'.heap[gb143]? = some (.cells #[.bool t135, (.slice Ao9 t136.length co9), (.slice Ao10 t139.length co10)] 26 (0, 0))) ∧ Aside0 (Below w.heap.size w w'))
                case atStart => exact ⟨(t147), (by first | rfl | (simp; done) | (simp [*]; done)), H', ⟨Nat.le_refl _⟩, ⟨by (with_reducible repeat (first | apply Kd.R_alloc | apply Kd.R_drewN | apply Kd.R_drew)); exact HO_144001.out⟩, ⟨by (with_reducible repeat (first | apply Kd.R_alloc | apply Kd.R_drewN | apply Kd.R_drew)); exact HO_144002.out⟩, ⟨by (with_reducible repeat (first | refine blk_drewN ?_ _ | refine blk_drew ?_ | refine blk_alloc ?_ _)); exact BK143.out⟩, ⟨by repeat (first | (with_reducible first | exact HB.out | apply below_alloc | apply pw_below_drewN | apply below_drew1 | refine below_set ?_ GE143.out) | exact HB.out)⟩⟩
                case round =>
                  clear H'
                  try clear c1
                  try clear p2
                  try clear c3
                  try clear p6
                  try clear c11
                  try clear c11b0
                  try clear c16
                  try clear c17
                  try clear c17b0
                  try clear c17b1
                  try clear c18
                  try clear c18b0
                  try clear c19
                  try clear hcz14_0
                  try clear hcz14_1
                  try clear hcz14_2
                  try clear hcz8_0
                  try clear hcz8_1
                  try clear hcz8_2
                  try clear hfz14_0
                  try clear hfz14_1
                  try clear hfz14_2
                  try clear hfz8_0
                  try clear hfz8_1
                  try clear hfz8_2
                  try clear p2
                  try clear p6
                  obtain ⟨x11_3, rfl, HA, HK3, HO_144001, HO_144002, BK143, HB⟩ := hrel
                  cases gk with
                  | zero => exact absurd HA.out (by simp [pagemendlaw34_SegmentsRanges.l1])
                  | succ k3 =>
                    have H := HA.out
                    clear HA
                    simp only [pagemendlaw34_SegmentsRanges.l1] at H
                    by_cases c20 : x11_3 ≤ t148
                    · rw [if_pos c20] at H
                      have c20b0 : decide (x11_3 ≤ t148) = true := decide_eq_true c20
                      clear c20
                      replace H := Option.bind_eq_some_iff.mp H
                      obtain ⟨t150, A210, H⟩ := H
                      replace H : (if t150 = x7_1 then ((segments_There.f k3 t135 t136 t139 x11_3).bind fun t151 => (if t151 = true then (some false) else (pagemendlaw34_SegmentsRanges.l1 k3 (wrap64 (1 + (Int.tmod (wrap64 (a0)) 64))) t142 x7_1 t148 (wrap64 (x11_3 + 1)) t135 t136 t139))) else (some false)) = some r := H
                      have A21 := Aside0.mk A210
                      clear A210
                      by_cases c22 : t150 = x7_1
                      · rw [if_pos c22] at H
                        have c22b0 : (t150 == x7_1) = true := beq_iff_eq.mpr c22
                        have c22b1 : (t150 != x7_1) = false := bne_eq_false_iff_eq.mpr c22
                        clear c22
                        replace H := Option.bind_eq_some_iff.mp H
                        obtain ⟨t151, A230, H⟩ := H
                        replace H : (if t151 = true then (some false) else (pagemendlaw34_SegmentsRanges.l1 k3 (wrap64 (1 + (Int.tmod (wrap64 (a0)) 64))) t142 x7_1 t148 (wrap64 (x11_3 + 1)) t135 t136 t139)) = some r := H
                        have A23 := Aside0.mk A230
                        clear A230
                        by_cases c24 : t151 = true
                        · subst c24
                          have H1 : (some false) = some r := by rw [if_pos rfl] at H; exact H
                          clear H
                          have H := H1
                          clear H1
                          obtain rfl := Option.some.inj H
                          go_wp2_with (first | ((with_reducible refine gate_callee (f := 19) rfl ?_); refine goesL_ (some 65) rfl rfl Try.func19 (by kernel_rfl) rfl #[.int .i64 x11_3] rfl (by (try simp only [List.map_toArray, List.map_cons, List.map_nil]); first | done | rfl | (simp only [List.length_drop, List.length_take]; rfl)) ?_; (with_reducible refine (segments_Of.calls x11_3 t150 _ A21.out).mono ?_); rintro e w' ⟨rfl, ⟨nd, rfl⟩⟩; refine ⟨_, rfl, ?_⟩; have hcz25_0 : wr.cell? ⟨gb143, 0, none⟩ = some (.bool t135) := (blk_cell BK143.out 0).trans rfl; have hcz25_1 : wr.cell? ⟨gb143, 1, none⟩ = some (.slice Ao9 t136.length co9) := (blk_cell BK143.out 1).trans rfl; have hcz25_2 : wr.cell? ⟨gb143, 2, none⟩ = some (.slice Ao10 t139.length co10) := (blk_cell BK143.out 2).trans rfl; have hfz25_0 := blk_frozen BK143.out 0; have hfz25_1 := blk_frozen BK143.out 1; have hfz25_2 := blk_frozen BK143.out 2) | (go_at_call 20; (with_reducible refine (segments_There.calls k3 t135 _ _ t136 _ _ t139 x11_3 true _ ?side1 ?side2 ?side3 ?side4 A23.out).mono ?_); (case side1 => repeat (first | exact (Kd.R_reads' HO_144001.out).2.2 | (with_reducible refine Kd.C_alloc ?_ _) | (with_reducible refine Kd.C_drewN ?_ _) | (with_reducible refine Kd.C_drew ?_))); (case side2 => exact (Kd.R_reads' HO_144001.out).2.1); (case side3 => repeat (first | exact (Kd.R_reads' HO_144002.out).2.2 | (with_reducible refine Kd.C_alloc ?_ _) | (with_reducible refine Kd.C_drewN ?_ _) | (with_reducible refine Kd.C_drew ?_))); (case side4 => exact (Kd.R_reads' HO_144002.out).2.1); rintro e w26 ⟨rfl, hb⟩; have n0_ := Aside0.mk (Kd.R_below (by (with_reducible repeat (first | apply Kd.R_alloc | apply Kd.R_drewN | apply Kd.R_drew)); exact HO_144001.out) hb); have n1_ := Aside0.mk (Kd.R_below (by (with_reducible repeat (first | apply Kd.R_alloc | apply Kd.R_drewN | apply Kd.R_drew)); exact HO_144002.out) hb); have n2_ := Aside0.mk (blk_below (g := gb143) (o := .cells #[.bool t135, .slice Ao9 t136.length co9, .slice Ao10 t139.length co10] 26 (0, 0)) (by (with_reducible repeat (first | refine blk_drewN ?_ _ | refine blk_drew ?_ | refine blk_alloc ?_ _)); exact BK143.out) hb); have n3_ := Aside0.mk (below_step (by repeat (first | (with_reducible first | exact HB.out | apply below_alloc | apply pw_below_drewN | apply below_drew1 | refine below_set ?_ GE143.out) | exact HB.out)) hb); clear HO_144001; clear HO_144002; clear BK143; clear HB; have HO_144001 := n0_; have HO_144002 := n1_; have BK143 := n2_; have HB := n3_; clear n0_ n1_ n2_ n3_; (try clear hb); (try clear hb2); (try clear hk); (try clear hi)))
                          go_ret
                          exact ⟨by first | rfl | (simp [errW_none, errW_some] <;> rfl) | (simp [*, errW_none, errW_some] <;> rfl), by repeat (first | (with_reducible first | exact HB.out | apply below_alloc | apply pw_below_drewN | apply below_drew1 | refine below_set ?_ GE143.out) | exact HB.out)⟩
                        · replace c24 := Bool.eq_false_iff.mpr c24
                          subst c24
                          have H1 : (pagemendlaw34_SegmentsRanges.l1 k3 (wrap64 (1 + (Int.tmod (wrap64 (a0)) 64))) t142 x7_1 t148 (wrap64 (x11_3 + 1)) t135 t136 t139) = some r := by rw [if_neg (show ¬ (false = true) by decide)] at H; exact H
                          clear H
                          have H := H1
                          clear H1
                          have H' := Aside0.mk H
                          clear H
                          go_wp2_with (first | ((with_reducible refine gate_callee (f := 19) rfl ?_); refine goesL_ (some 65) rfl rfl Try.func19 (by kernel_rfl) rfl #[.int .i64 x11_3] rfl (by (try simp only [List.map_toArray, List.map_cons, List.map_nil]); first | done | rfl | (simp only [List.length_drop, List.length_take]; rfl)) ?_; (with_reducible refine (segments_Of.calls x11_3 t150 _ A21.out).mono ?_); rintro e w' ⟨rfl, ⟨nd, rfl⟩⟩; refine ⟨_, rfl, ?_⟩; have hcz27_0 : wr.cell? ⟨gb143, 0, none⟩ = some (.bool t135) := (blk_cell BK143.out 0).trans rfl; have hcz27_1 : wr.cell? ⟨gb143, 1, none⟩ = some (.slice Ao9 t136.length co9) := (blk_cell BK143.out 1).trans rfl; have hcz27_2 : wr.cell? ⟨gb143, 2, none⟩ = some (.slice Ao10 t139.length co10) := (blk_cell BK143.out 2).trans rfl; have hfz27_0 := blk_frozen BK143.out 0; have hfz27_1 := blk_frozen BK143.out 1; have hfz27_2 := blk_frozen BK143.out 2) | (go_at_call 20; (with_reducible refine (segments_There.calls k3 t135 _ _ t136 _ _ t139 x11_3 false _ ?side1 ?side2 ?side3 ?side4 A23.out).mono ?_); (case side1 => repeat (first | exact (Kd.R_reads' HO_144001.out).2.2 | (with_reducible refine Kd.C_alloc ?_ _) | (with_reducible refine Kd.C_drewN ?_ _) | (with_reducible refine Kd.C_drew ?_))); (case side2 => exact (Kd.R_reads' HO_144001.out).2.1); (case side3 => repeat (first | exact (Kd.R_reads' HO_144002.out).2.2 | (with_reducible refine Kd.C_alloc ?_ _) | (with_reducible refine Kd.C_drewN ?_ _) | (with_reducible refine Kd.C_drew ?_))); (case side4 => exact (Kd.R_reads' HO_144002.out).2.1); rintro e w28 ⟨rfl, hb⟩; have n0_ := Aside0.mk (Kd.R_below (by (with_reducible repeat (first | apply Kd.R_alloc | apply Kd.R_drewN | apply Kd.R_drew)); exact HO_144001.out) hb); have n1_ := Aside0.mk (Kd.R_below (by (with_reducible repeat (first | apply Kd.R_alloc | apply Kd.R_drewN | apply Kd.R_drew)); exact HO_144002.out) hb); have n2_ := Aside0.mk (blk_below (g := gb143) (o := .cells #[.bool t135, .slice Ao9 t136.length co9, .slice Ao10 t139.length co10] 26 (0, 0)) (by (with_reducible repeat (first | refine blk_drewN ?_ _ | refine blk_drew ?_ | refine blk_alloc ?_ _)); exact BK143.out) hb); have n3_ := Aside0.mk (below_step (by repeat (first | (with_reducible first | exact HB.out | apply below_alloc | apply pw_below_drewN | apply below_drew1 | refine below_set ?_ GE143.out) | exact HB.out)) hb); clear HO_144001; clear HO_144002; clear BK143; clear HB; have HO_144001 := n0_; have HO_144002 := n1_; have BK143 := n2_; have HB := n3_; clear n0_ n1_ n2_ n3_; (try clear hb); (try clear hb2); (try clear hk); (try clear hi)))
                          go_roundg k3
                          case measure => have := HK1.out; have := HJ12.out; have := HK3.out; omega
                          case rel => exact ⟨(wrap64 (x11_3 + 1)), (by first | rfl | (simp; done) | (simp [*]; done)), H', ⟨by have := HK1.out; have := HJ12.out; have := HK3.out; omega⟩, ⟨by (with_reducible repeat (first | apply Kd.R_alloc | apply Kd.R_drewN | apply Kd.R_drew)); exact HO_144001.out⟩, ⟨by (with_reducible repeat (first | apply Kd.R_alloc | apply Kd.R_drewN | apply Kd.R_drew)); exact HO_144002.out⟩, ⟨by (with_reducible repeat (first | refine blk_drewN ?_ _ | refine blk_drew ?_ | refine blk_alloc ?_ _)); exact BK143.out⟩, ⟨by repeat (first | (with_reducible first | exact HB.out | apply below_alloc | apply pw_below_drewN | apply below_drew1 | refine below_set ?_ GE143.out) | exact HB.out)⟩⟩
                      · rw [if_neg c22] at H
                        have c22b0 : (t150 == x7_1) = false := beq_eq_false_iff_ne.mpr c22
                        have c22b1 : (t150 != x7_1) = true := bne_iff_ne.mpr c22
                        obtain rfl := Option.some.inj H
                        go_wp2_with (first | ((with_reducible refine gate_callee (f := 19) rfl ?_); refine goesL_ (some 65) rfl rfl Try.func19 (by kernel_rfl) rfl #[.int .i64 x11_3] rfl (by (try simp only [List.map_toArray, List.map_cons, List.map_nil]); first | done | rfl | (simp only [List.length_drop, List.length_take]; rfl)) ?_; (with_reducible refine (segments_Of.calls x11_3 t150 _ A21.out).mono ?_); rintro e w' ⟨rfl, ⟨nd, rfl⟩⟩; refine ⟨_, rfl, ?_⟩))
                        go_ret
                        exact ⟨by first | rfl | (simp [errW_none, errW_some] <;> rfl) | (simp [*, errW_none, errW_some] <;> rfl), by repeat (first | (with_reducible first | exact HB.out | apply below_alloc | apply pw_below_drewN | apply below_drew1 | refine below_set ?_ GE143.out) | exact HB.out)⟩
                    · rw [if_neg c20] at H
                      have c20b0 : decide (x11_3 ≤ t148) = false := decide_eq_false c20
                      clear c20
                      have H' := Aside0.mk H
                      clear H
                      go_wp2
                      go_roundg k3
                      case measure => have := HK1.out; have := HJ12.out; have := HK3.out; omega
                      case rel => exact ⟨(wrap64 (t148 + 1)), (wrap64 (x7_1 + 1)), (by first | rfl | (simp; done) | (simp [*]; done)), (by first | rfl | (simp; done) | (simp [*]; done)), H', ⟨by have := HK1.out; have := HJ12.out; have := HK3.out; omega⟩, ⟨by (with_reducible repeat (first | apply Kd.R_alloc | apply Kd.R_drewN | apply Kd.R_drew)); exact HO_144001.out⟩, ⟨by (with_reducible repeat (first | apply Kd.R_alloc | apply Kd.R_drewN | apply Kd.R_drew)); exact HO_144002.out⟩, ⟨by (with_reducible repeat (first | refine blk_drewN ?_ _ | refine blk_drew ?_ | refine blk_alloc ?_ _)); exact BK143.out⟩, ⟨by repeat (first | (with_reducible first | exact HB.out | apply below_alloc | apply pw_below_drewN | apply below_drew1 | refine below_set ?_ GE143.out) | exact HB.out)⟩⟩
        · rw [if_neg c11] at H
          have c11b0 : decide (x7_1 < (t136.length : Int)) = false := decide_eq_false c11
          clear c11
          replace H := Option.bind_eq_some_iff.mp H
          obtain ⟨⟨t144, t145, t146⟩, A290, H⟩ := H
          replace H : (if t142 = 0 then (if x6_1 = (wrap64 (1 + (Int.tmod (wrap64 (a0)) 64))) then (some (!t146)) else (some false)) else (some false)) = some r := H
          have A29 := Aside0.mk A290
          clear A290
          by_cases c30 : t142 = 0
          · rw [if_pos c30] at H
            have c30b0 : (t142 == 0) = true := beq_iff_eq.mpr c30
            have c30b1 : (t142 != 0) = false := bne_eq_false_iff_eq.mpr c30
            clear c30
            by_cases c31 : x6_1 = (wrap64 (1 + (Int.tmod (wrap64 (a0)) 64)))
            · rw [if_pos c31] at H
              have c31b0 : (x6_1 == (wrap64 (1 + (Int.tmod (wrap64 (a0)) 64)))) = true := beq_iff_eq.mpr c31
              have c31b1 : (x6_1 != (wrap64 (1 + (Int.tmod (wrap64 (a0)) 64)))) = false := bne_eq_false_iff_eq.mpr c31
              clear c31
              obtain rfl := Option.some.inj H
              have hcz32_0 : wr.cell? ⟨gb143, 0, none⟩ = some (.bool t135) := (blk_cell BK143.out 0).trans rfl
              have hcz32_1 : wr.cell? ⟨gb143, 1, none⟩ = some (.slice Ao9 t136.length co9) := (blk_cell BK143.out 1).trans rfl
              have hcz32_2 : wr.cell? ⟨gb143, 2, none⟩ = some (.slice Ao10 t139.length co10) := (blk_cell BK143.out 2).trans rfl
              have hfz32_0 := blk_frozen BK143.out 0
              have hfz32_1 := blk_frozen BK143.out 1
              have hfz32_2 := blk_frozen BK143.out 2
              go_wp2_with (first | ((with_reducible refine gate_callee (f := 18) rfl ?_); refine goesL_ (some 80) rfl rfl Try.func18 (by kernel_rfl) rfl #[.int .i64 (wrap64 (1 + (Int.tmod (wrap64 (a0)) 64))), .int .i64 (t136.length : Int)] rfl (by (try simp only [List.map_toArray, List.map_cons, List.map_nil]); first | done | rfl | (simp only [List.length_drop, List.length_take]; rfl)) ?_; (with_reducible refine (segments_Range.calls (wrap64 (1 + (Int.tmod (wrap64 (a0)) 64))) (t136.length : Int) t144 t145 t146 _ A29.out).mono ?_); rintro e w33 ⟨rfl, hb⟩; refine ⟨_, rfl, ?_⟩; have n0_ := Aside0.mk (Kd.R_below (by (with_reducible repeat (first | apply Kd.R_alloc | apply Kd.R_drewN | apply Kd.R_drew)); exact HO_144001.out) hb); have n1_ := Aside0.mk (Kd.R_below (by (with_reducible repeat (first | apply Kd.R_alloc | apply Kd.R_drewN | apply Kd.R_drew)); exact HO_144002.out) hb); have n2_ := Aside0.mk (blk_below (g := gb143) (o := .cells #[.bool t135, .slice Ao9 t136.length co9, .slice Ao10 t139.length co10] 26 (0, 0)) (by (with_reducible repeat (first | refine blk_drewN ?_ _ | refine blk_drew ?_ | refine blk_alloc ?_ _)); exact BK143.out) hb); have n3_ := Aside0.mk (below_step (by repeat (first | (with_reducible first | exact HB.out | apply below_alloc | apply pw_below_drewN | apply below_drew1 | refine below_set ?_ GE143.out) | exact HB.out)) hb); clear HO_144001; clear HO_144002; clear BK143; clear HB; have HO_144001 := n0_; have HO_144002 := n1_; have BK143 := n2_; have HB := n3_; clear n0_ n1_ n2_ n3_; (try clear hb); (try clear hb2); (try clear hk); (try clear hi)))
              go_ret
              exact ⟨by first | rfl | (simp [errW_none, errW_some] <;> rfl) | (simp [*, errW_none, errW_some] <;> rfl), by repeat (first | (with_reducible first | exact HB.out | apply below_alloc | apply pw_below_drewN | apply below_drew1 | refine below_set ?_ GE143.out) | exact HB.out)⟩
            · rw [if_neg c31] at H
              have c31b0 : (x6_1 == (wrap64 (1 + (Int.tmod (wrap64 (a0)) 64)))) = false := beq_eq_false_iff_ne.mpr c31
              have c31b1 : (x6_1 != (wrap64 (1 + (Int.tmod (wrap64 (a0)) 64)))) = true := bne_iff_ne.mpr c31
              obtain rfl := Option.some.inj H
              have hcz34_0 : wr.cell? ⟨gb143, 0, none⟩ = some (.bool t135) := (blk_cell BK143.out 0).trans rfl
              have hcz34_1 : wr.cell? ⟨gb143, 1, none⟩ = some (.slice Ao9 t136.length co9) := (blk_cell BK143.out 1).trans rfl
              have hcz34_2 : wr.cell? ⟨gb143, 2, none⟩ = some (.slice Ao10 t139.length co10) := (blk_cell BK143.out 2).trans rfl
              have hfz34_0 := blk_frozen BK143.out 0
              have hfz34_1 := blk_frozen BK143.out 1
              have hfz34_2 := blk_frozen BK143.out 2
              go_wp2_with (first | ((with_reducible refine gate_callee (f := 18) rfl ?_); refine goesL_ (some 80) rfl rfl Try.func18 (by kernel_rfl) rfl #[.int .i64 (wrap64 (1 + (Int.tmod (wrap64 (a0)) 64))), .int .i64 (t136.length : Int)] rfl (by (try simp only [List.map_toArray, List.map_cons, List.map_nil]); first | done | rfl | (simp only [List.length_drop, List.length_take]; rfl)) ?_; (with_reducible refine (segments_Range.calls (wrap64 (1 + (Int.tmod (wrap64 (a0)) 64))) (t136.length : Int) t144 t145 t146 _ A29.out).mono ?_); rintro e w35 ⟨rfl, hb⟩; refine ⟨_, rfl, ?_⟩; have n0_ := Aside0.mk (Kd.R_below (by (with_reducible repeat (first | apply Kd.R_alloc | apply Kd.R_drewN | apply Kd.R_drew)); exact HO_144001.out) hb); have n1_ := Aside0.mk (Kd.R_below (by (with_reducible repeat (first | apply Kd.R_alloc | apply Kd.R_drewN | apply Kd.R_drew)); exact HO_144002.out) hb); have n2_ := Aside0.mk (blk_below (g := gb143) (o := .cells #[.bool t135, .slice Ao9 t136.length co9, .slice Ao10 t139.length co10] 26 (0, 0)) (by (with_reducible repeat (first | refine blk_drewN ?_ _ | refine blk_drew ?_ | refine blk_alloc ?_ _)); exact BK143.out) hb); have n3_ := Aside0.mk (below_step (by repeat (first | (with_reducible first | exact HB.out | apply below_alloc | apply pw_below_drewN | apply below_drew1 | refine below_set ?_ GE143.out) | exact HB.out)) hb); clear HO_144001; clear HO_144002; clear BK143; clear HB; have HO_144001 := n0_; have HO_144002 := n1_; have BK143 := n2_; have HB := n3_; clear n0_ n1_ n2_ n3_; (try clear hb); (try clear hb2); (try clear hk); (try clear hi)))
              go_ret
              exact ⟨by first | rfl | (simp [errW_none, errW_some] <;> rfl) | (simp [*, errW_none, errW_some] <;> rfl), by repeat (first | (with_reducible first | exact HB.out | apply below_alloc | apply pw_below_drewN | apply below_drew1 | refine below_set ?_ GE143.out) | exact HB.out)⟩
          · rw [if_neg c30] at H
            have c30b0 : (t142 == 0) = false := beq_eq_false_iff_ne.mpr c30
            have c30b1 : (t142 != 0) = true := bne_iff_ne.mpr c30
            obtain rfl := Option.some.inj H
            have hcz36_0 : wr.cell? ⟨gb143, 0, none⟩ = some (.bool t135) := (blk_cell BK143.out 0).trans rfl
            have hcz36_1 : wr.cell? ⟨gb143, 1, none⟩ = some (.slice Ao9 t136.length co9) := (blk_cell BK143.out 1).trans rfl
            have hcz36_2 : wr.cell? ⟨gb143, 2, none⟩ = some (.slice Ao10 t139.length co10) := (blk_cell BK143.out 2).trans rfl
            have hfz36_0 := blk_frozen BK143.out 0
            have hfz36_1 := blk_frozen BK143.out 1
            have hfz36_2 := blk_frozen BK143.out 2
            go_wp2_with (first | ((with_reducible refine gate_callee (f := 18) rfl ?_); refine goesL_ (some 80) rfl rfl Try.func18 (by kernel_rfl) rfl #[.int .i64 (wrap64 (1 + (Int.tmod (wrap64 (a0)) 64))), .int .i64 (t136.length : Int)] rfl (by (try simp only [List.map_toArray, List.map_cons, List.map_nil]); first | done | rfl | (simp only [List.length_drop, List.length_take]; rfl)) ?_; (with_reducible refine (segments_Range.calls (wrap64 (1 + (Int.tmod (wrap64 (a0)) 64))) (t136.length : Int) t144 t145 t146 _ A29.out).mono ?_); rintro e w37 ⟨rfl, hb⟩; refine ⟨_, rfl, ?_⟩; have n0_ := Aside0.mk (Kd.R_below (by (with_reducible repeat (first | apply Kd.R_alloc | apply Kd.R_drewN | apply Kd.R_drew)); exact HO_144001.out) hb); have n1_ := Aside0.mk (Kd.R_below (by (with_reducible repeat (first | apply Kd.R_alloc | apply Kd.R_drewN | apply Kd.R_drew)); exact HO_144002.out) hb); have n2_ := Aside0.mk (blk_below (g := gb143) (o := .cells #[.bool t135, .slice Ao9 t136.length co9, .slice Ao10 t139.length co10] 26 (0, 0)) (by (with_reducible repeat (first | refine blk_drewN ?_ _ | refine blk_drew ?_ | refine blk_alloc ?_ _)); exact BK143.out) hb); have n3_ := Aside0.mk (below_step (by repeat (first | (with_reducible first | exact HB.out | apply below_alloc | apply pw_below_drewN | apply below_drew1 | refine below_set ?_ GE143.out) | exact HB.out)) hb); clear HO_144001; clear HO_144002; clear BK143; clear HB; have HO_144001 := n0_; have HO_144002 := n1_; have BK143 := n2_; have HB := n3_; clear n0_ n1_ n2_ n3_; (try clear hb); (try clear hb2); (try clear hk); (try clear hi)))
            go_ret
            exact ⟨by first | rfl | (simp [errW_none, errW_some] <;> rfl) | (simp [*, errW_none, errW_some] <;> rfl), by repeat (first | (with_reducible first | exact HB.out | apply below_alloc | apply pw_below_drewN | apply below_drew1 | refine below_set ?_ GE143.out) | exact HB.out)⟩
  · replace c3 := Bool.eq_false_iff.mpr c3
    subst c3
    have H1 : (some false) = some r := by rw [if_neg (show ¬ (false = true) by decide)] at H; exact H
    clear H
    have H := H1
    clear H1
    obtain rfl := Option.some.inj H
    go_enter Try.func3, Try.ntmps3
    go_wp2_with (first | ((with_reducible refine gate_callee (f := 16) rfl ?_); refine goesL_ (some 15) rfl rfl Try.func16 (by kernel_rfl) rfl #[] rfl (by (try simp only [List.map_toArray, List.map_cons, List.map_nil]); first | done | rfl | (simp only [List.length_drop, List.length_take]; rfl)) ?_; (with_reducible refine (pagemendlaw34_awake.calls  false _ A2.out).mono ?_); rintro e w38 ⟨rfl, hb⟩; refine ⟨_, rfl, ?_⟩; have n0_ := Aside0.mk (below_step (by repeat (first | (with_reducible first | exact HB.out | apply below_alloc | apply pw_below_drewN | apply below_drew1) | exact HB.out)) hb); clear HB; have HB := n0_; clear n0_; (try clear hb); (try clear hb2); (try clear hk); (try clear hi)))
    go_ret
    exact ⟨by first | rfl | (simp [errW_none, errW_some] <;> rfl) | (simp [*, errW_none, errW_some] <;> rfl), by repeat (first | (with_reducible first | exact HB.out | apply below_alloc | apply pw_below_drewN | apply below_drew1) | exact HB.out)⟩

/-- THE ONE PURE STATEMENT of pagemendlaw34_SegmentsRanges: yours. -/
def pagemendlaw34_SegmentsRanges.Pure : Prop := ∀ (a0 : Int), (Lit.int .u8 a0).wf = true → ∃ k, pagemendlaw34_SegmentsRanges.f k a0 = some true
theorem pagemendlaw34_SegmentsRanges.walk (P : pagemendlaw34_SegmentsRanges.Pure) (a0 : Int) (w : World) (w0 : (Lit.int .u8 a0).wf = true) :
    Calls Try.prog 3 #[.int .u8 a0] w fun e w' => e = .returned (.bool true) ∧ Below w.heap.size w w' := by
  obtain ⟨k, h⟩ := P a0 w0
  refine (pagemendlaw34_SegmentsRanges.calls k a0 true w h).mono ?_
  rintro e w' ⟨rfl, hd⟩
  exact ⟨rfl, hd⟩

end Go.Proofs.Ytdjbjfmgdagcgaa.PSegmentsRanges
