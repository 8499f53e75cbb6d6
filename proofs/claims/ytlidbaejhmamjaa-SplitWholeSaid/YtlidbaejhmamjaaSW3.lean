/- Part 3 of the proof of SplitWhole: what the functions below it compute, each shown by a walk or by plain reasoning; no condition of its own. -/
import Derived.Test.YtlidbaejhmamjaaSW1
import Derived.Test.YtlidbaejhmamjaaSW2
namespace Go.Proofs.Ytlidbaejhmamjaa.PB
open Go.RowKit Go.Proofs.YtlidbaejhmamjaaW.PrintWords Go.Proofs.YtlidbaejhmamjaaW.PrintLast Go.Proofs.YtlidbaejhmamjaaW.PrintMore
attribute [local go_sem] max2_int min2_int max_two min_two max_three min_three max_four min_four   -- for this text's walks alone
set_option linter.unusedVariables false
set_option linter.unusedSimpArgs false

/-! ### split_Halve: function 15 -/
def split_Halve.j0 : Nat → Int → List (S90) → Bool → Option (List Int × List Int × List Int × List Int × Int)
  | 0, _, _, _ => none
  | k + 1, x1, x8, x37 => if x37 = true then (some (([] : List Int), ([] : List Int), ([] : List Int), ([] : List Int), 1)) else (if 0 ≤ x1 then (if x1 < (x8.length : Int) then ((some (x8.set (x1 : Int).toNat (⟨wrap64 (((rd_T90 x8 x1).f0) + 1), wrap64 (2 * ((rd_T90 x8 x1).f1))⟩ : S90) : List (S90))).bind fun y163 => ((split_region.f k y163).bind fun bt164 => ((some (y163.set (x1 : Int).toNat (⟨(rd_T90 y163 x1).f0, wrap64 (((rd_T90 y163 x1).f1) + 1)⟩ : S90) : List (S90))).bind fun y172 => ((split_region.f k y172).bind fun bt173 => (if (((rd_T90 y172 x1).f0) == ((rd_T90 x8 x1).f0) && (((rd_T90 y172 x1).f1) == ((rd_T90 x8 x1).f1))) = true then (none) else (some (bt164.1, bt164.2, bt173.1, bt173.2, 0))))))) else (none)) else (none))
def split_Halve.f (k : Nat) (l0_0 : List Int) (l0_1 : List Int) (a1 : Int) : Option (List Int × List Int × List Int × List Int × Int) := (split_Check.f k l0_0 l0_1 (l0_0.length : Int)).bind fun t156 => (if t156 = 0 then ((split_parts.f k l0_0 l0_1).bind fun t157 => (if a1 < 0 then (split_Halve.j0 k a1 t157 true) else (if a1 ≥ (l0_0.length : Int) then (split_Halve.j0 k a1 t157 true) else (if 0 ≤ a1 then (if a1 < (t157.length : Int) then (split_Halve.j0 k a1 t157 (((rd_T90 t157 a1).f0) == 8)) else (none)) else (none))))) else (some (([] : List Int), ([] : List Int), ([] : List Int), ([] : List Int), 180)))
theorem split_Halve.mono_l : ∀ k, (∀ y0 y1 y2, LeO (split_Halve.j0 k y0 y1 y2) (split_Halve.j0 (k + 1) y0 y1 y2))
  | 0 => fun _ _ _ r h => by simp [split_Halve.j0] at h
  | k + 1 => by
    have ih0 := split_Halve.mono_l k
    · intro y0 y1 y2
      unfold split_Halve.j0
      repeat' first
      | (with_reducible exact ih0 _ _ _)
      | (with_reducible exact split_Check.mono _ _ _ _)
      | (with_reducible exact split_parts.mono _ _ _)
      | (with_reducible exact split_region.mono _ _)
      | (with_reducible exact LeO.refl _)
      | (with_reducible exact LeO.none _)
      | (with_reducible refine LeO.ite ?_ ?_)
      | (with_reducible refine LeO.bind ?_ (fun _ => ?_))
      | exact ih0 _ _ _
      | exact split_Check.mono _ _ _ _
      | exact split_parts.mono _ _ _
      | exact split_region.mono _ _
      | exact LeO.none _
      | refine LeO.ite ?_ ?_
      | refine LeO.bind ?_ (fun _ => ?_)
theorem split_Halve.mono : ∀ a0 a1 a2 k, LeO (split_Halve.f k a0 a1 a2) (split_Halve.f (k + 1) a0 a1 a2) := by
  intro a0 a1 a2 k
  have ih0 := split_Halve.mono_l k
  unfold split_Halve.f
  repeat' first
      | (with_reducible exact ih0 _ _ _)
      | (with_reducible exact split_Check.mono _ _ _ _)
      | (with_reducible exact split_parts.mono _ _ _)
      | (with_reducible exact split_region.mono _ _)
      | (with_reducible exact LeO.refl _)
      | (with_reducible exact LeO.none _)
      | (with_reducible refine LeO.ite ?_ ?_)
      | (with_reducible refine LeO.bind ?_ (fun _ => ?_))
      | exact ih0 _ _ _
      | exact split_Check.mono _ _ _ _
      | exact split_parts.mono _ _ _
      | exact split_region.mono _ _
      | exact LeO.none _
      | refine LeO.ite ?_ ?_
      | refine LeO.bind ?_ (fun _ => ?_)
theorem split_Halve.ite2 {a b c d : Int} {x y : Result Next} (h : ((a == b) && (c == d)) = false) : (if a = b then (if c = d then x else y) else y) = y := by
  by_cases e0 : a = b
  · by_cases e1 : c = d
    · exact absurd h (by simp [e0, e1])
    · rw [if_pos e0, if_neg e1]
  · rw [if_neg e0]
set_option maxHeartbeats 1500000 in
set_option maxRecDepth 100000 in
theorem split_Halve.calls (k : Nat) (A0_0 : Option Addr) (c0_0 : Nat) (l0_0 : List Int) (A0_1 : Option Addr) (c0_1 : Nat) (l0_1 : List Int) (a1 : Int) (r1 : List Int) (r2 : List Int) (r3 : List Int) (r4 : List Int) (r5 : Int) (w : World) (hr0_0 : Kd.C (Kd.int .i64) w A0_0 l0_0.length l0_0) (hc0_0 : l0_0.length ≤ c0_0) (hr0_1 : Kd.C (Kd.int .i64) w A0_1 l0_1.length l0_1) (hc0_1 : l0_1.length ≤ c0_1) (h : split_Halve.f k l0_0 l0_1 a1 = some (r1, r2, r3, r4, r5)) :
    Calls Try.prog 15 #[.agg #[.slice A0_0 l0_0.length c0_0, .slice A0_1 l0_1.length c0_1], .int .i64 a1] w fun e w' => ∃ v0_ v1_ v2_ v3_ : Value, e = .returned (.tuple #[.agg #[v0_, v1_], .agg #[v2_, v3_], .int .i64 r5]) ∧ Kd.R (Kd.int .i64) 3 w' w.heap.size (fun k_ => some k_ ≠ (v1_ : Value).ownBlock ∧ some k_ ≠ (v2_ : Value).ownBlock ∧ some k_ ≠ (v3_ : Value).ownBlock) v0_ r1 ∧ Kd.R (Kd.int .i64) 3 w' w.heap.size (fun k_ => some k_ ≠ (v0_ : Value).ownBlock ∧ some k_ ≠ (v2_ : Value).ownBlock ∧ some k_ ≠ (v3_ : Value).ownBlock) v1_ r2 ∧ Kd.R (Kd.int .i64) 3 w' w.heap.size (fun k_ => some k_ ≠ (v0_ : Value).ownBlock ∧ some k_ ≠ (v1_ : Value).ownBlock ∧ some k_ ≠ (v3_ : Value).ownBlock) v2_ r3 ∧ Kd.R (Kd.int .i64) 3 w' w.heap.size (fun k_ => some k_ ≠ (v0_ : Value).ownBlock ∧ some k_ ≠ (v1_ : Value).ownBlock ∧ some k_ ≠ (v2_ : Value).ownBlock) v3_ r4 ∧ Below w.heap.size w w' := by
  have hu24 := Try.underlying24
  have hu90 := Try.underlying90
  have HR0_0 := Aside0.mk hr0_0
  have HC0_0 := Aside0.mk hc0_0
  clear hr0_0 hc0_0
  have HR0_1 := Aside0.mk hr0_1
  have HC0_1 := Aside0.mk hc0_1
  clear hr0_1 hc0_1
  have HB := Aside0.mk (Below.refl w.heap.size w)
  have H : ((split_Check.f k l0_0 l0_1 (l0_0.length : Int)).bind fun t156 => (if t156 = 0 then ((split_parts.f k l0_0 l0_1).bind fun t157 => (if a1 < 0 then (split_Halve.j0 k a1 t157 true) else (if a1 ≥ (l0_0.length : Int) then (split_Halve.j0 k a1 t157 true) else (if 0 ≤ a1 then (if a1 < (t157.length : Int) then (split_Halve.j0 k a1 t157 (((rd_T90 t157 a1).f0) == 8)) else (none)) else (none))))) else (some (([] : List Int), ([] : List Int), ([] : List Int), ([] : List Int), 180)))) = some (r1, r2, r3, r4, r5) := h
  clear h
  replace H := Option.bind_eq_some_iff.mp H
  obtain ⟨t156, A30, H⟩ := H
  replace H : (if t156 = 0 then ((split_parts.f k l0_0 l0_1).bind fun t157 => (if a1 < 0 then (split_Halve.j0 k a1 t157 true) else (if a1 ≥ (l0_0.length : Int) then (split_Halve.j0 k a1 t157 true) else (if 0 ≤ a1 then (if a1 < (t157.length : Int) then (split_Halve.j0 k a1 t157 (((rd_T90 t157 a1).f0) == 8)) else (none)) else (none))))) else (some (([] : List Int), ([] : List Int), ([] : List Int), ([] : List Int), 180))) = some (r1, r2, r3, r4, r5) := H
  have A3 := Aside0.mk A30
  clear A30
  by_cases c4 : t156 = 0
  · rw [if_pos c4] at H
    have c4b0 : (t156 == 0) = true := beq_iff_eq.mpr c4
    have c4b1 : (t156 != 0) = false := bne_eq_false_iff_eq.mpr c4
    clear c4
    replace H := Option.bind_eq_some_iff.mp H
    obtain ⟨t157, A50, H⟩ := H
    replace H : (if a1 < 0 then (split_Halve.j0 k a1 t157 true) else (if a1 ≥ (l0_0.length : Int) then (split_Halve.j0 k a1 t157 true) else (if 0 ≤ a1 then (if a1 < (t157.length : Int) then (split_Halve.j0 k a1 t157 (((rd_T90 t157 a1).f0) == 8)) else (none)) else (none)))) = some (r1, r2, r3, r4, r5) := H
    have A5 := Aside0.mk A50
    clear A50
    have HC6 := Aside0.mk H
    clear H
    go_enter Try.func15, Try.ntmps15
    go_upto_region 5 with (first | ((with_reducible refine gate_dst (N := 2) rfl ?_); refine box_event ?hg (N := 2) ?hd (cs := #[.slice A0_0 l0_0.length c0_0, .slice A0_1 l0_1.length c0_1]) (t := 24) ?hr ?_; (case hd => rfl); (case hg => rfl); (case hr => first | (go_simp; done) | (go_simp; rfl)); intro gb153 hg w7 hbox hb; have n0_ := Aside0.mk (below_step (by repeat (first | (with_reducible first | exact HB.out | apply below_alloc | apply pw_below_drewN | apply below_drew1) | exact HB.out)) hb); have n1_ := Aside0.mk (hbox); have n2_ := Aside0.mk ((by rw [hg]; exact (below_size (by repeat (first | (with_reducible first | exact HB.out | apply below_alloc | apply pw_below_drewN | apply below_drew1) | exact HB.out))) : w.heap.size ≤ gb153)); have n3_ := Aside0.mk ((by rw [hg]; exact (below_size (by repeat (first | (with_reducible first | exact HB.out | apply below_alloc | apply pw_below_drewN | apply below_drew1) | exact HB.out))) : w.heap.size ≤ gb153)); clear HB; have HB := n0_; have BK153 := n1_; have GW153 := n2_; have GE153 := n3_; clear n0_ n1_ n2_ n3_; clear hb hbox hg) | ((with_reducible refine gate_dst (N := 4) rfl ?_); refine box_event ?hg (N := 4) ?hd (cs := #[.slice none 0 0, .slice none 0 0]) (t := 24) ?hr ?_; (case hd => rfl); (case hg => rfl); (case hr => first | (go_simp; done) | (go_simp; rfl)); intro gb154 hg w8 hbox hb; have n0_ := Aside0.mk (blk_below (g := gb153) (o := .cells #[.slice A0_0 l0_0.length c0_0, .slice A0_1 l0_1.length c0_1] 24 (0, 0)) (by (with_reducible repeat (first | refine blk_drewN ?_ _ | refine blk_drew ?_ | refine blk_alloc ?_ _)); exact BK153.out) hb); have n1_ := Aside0.mk (below_step (by repeat (first | (with_reducible first | exact HB.out | apply below_alloc | apply pw_below_drewN | apply below_drew1 | refine below_set ?_ GE153.out) | exact HB.out)) hb); have n2_ := Aside0.mk (hbox); have n3_ := Aside0.mk ((by rw [hg]; exact (below_size (by repeat (first | (with_reducible first | exact HB.out | apply below_alloc | apply pw_below_drewN | apply below_drew1 | refine below_set ?_ GE153.out) | exact HB.out))) : w.heap.size ≤ gb154)); have n4_ := Aside0.mk ((by rw [hg]; exact (below_size (by repeat (first | (with_reducible first | exact HB.out | apply below_alloc | apply pw_below_drewN | apply below_drew1 | refine below_set ?_ GE153.out) | exact HB.out))) : w.heap.size ≤ gb154)); have n5_ := Aside0.mk ((by rw [hg]; exact Nat.ne_of_lt (blk_lt (g := gb153) (o := .cells #[.slice A0_0 l0_0.length c0_0, .slice A0_1 l0_1.length c0_1] 24 (0, 0)) (by (with_reducible repeat (first | refine blk_drewN ?_ _ | refine blk_drew ?_ | refine blk_alloc ?_ _)); exact BK153.out)) : gb153 ≠ gb154)); have n6_ := Aside0.mk ((by rw [hg]; exact Nat.ne_of_gt (blk_lt (g := gb153) (o := .cells #[.slice A0_0 l0_0.length c0_0, .slice A0_1 l0_1.length c0_1] 24 (0, 0)) (by (with_reducible repeat (first | refine blk_drewN ?_ _ | refine blk_drew ?_ | refine blk_alloc ?_ _)); exact BK153.out)) : gb154 ≠ gb153)); clear BK153; clear HB; have BK153 := n0_; have HB := n1_; have BK154 := n2_; have GW154 := n3_; have GE154 := n4_; have NB153_154 := n5_; have NB154_153 := n6_; clear n0_ n1_ n2_ n3_ n4_ n5_ n6_; clear hb hbox hg) | ((with_reducible refine gate_dst (N := 5) rfl ?_); refine box_event ?hg (N := 5) ?hd (cs := #[.slice none 0 0, .slice none 0 0]) (t := 24) ?hr ?_; (case hd => rfl); (case hg => rfl); (case hr => first | (go_simp; done) | (go_simp; rfl)); intro gb155 hg w9 hbox hb; have n0_ := Aside0.mk (blk_below (g := gb153) (o := .cells #[.slice A0_0 l0_0.length c0_0, .slice A0_1 l0_1.length c0_1] 24 (0, 0)) (by (with_reducible repeat (first | refine blk_drewN ?_ _ | refine blk_drew ?_ | refine blk_alloc ?_ _)); exact BK153.out) hb); have n1_ := Aside0.mk (blk_below (g := gb154) (o := .cells #[.slice none 0 0, .slice none 0 0] 24 (0, 0)) (by (with_reducible repeat (first | refine blk_drewN ?_ _ | refine blk_drew ?_ | refine blk_alloc ?_ _)); exact BK154.out) hb); have n2_ := Aside0.mk (below_step (by repeat (first | (with_reducible first | exact HB.out | apply below_alloc | apply pw_below_drewN | apply below_drew1 | refine below_set ?_ GE153.out | refine below_set ?_ GE154.out) | exact HB.out)) hb); have n3_ := Aside0.mk (hbox); have n4_ := Aside0.mk ((by rw [hg]; exact (below_size (by repeat (first | (with_reducible first | exact HB.out | apply below_alloc | apply pw_below_drewN | apply below_drew1 | refine below_set ?_ GE153.out | refine below_set ?_ GE154.out) | exact HB.out))) : w.heap.size ≤ gb155)); have n5_ := Aside0.mk ((by rw [hg]; exact (below_size (by repeat (first | (with_reducible first | exact HB.out | apply below_alloc | apply pw_below_drewN | apply below_drew1 | refine below_set ?_ GE153.out | refine below_set ?_ GE154.out) | exact HB.out))) : w.heap.size ≤ gb155)); have n6_ := Aside0.mk ((by rw [hg]; exact Nat.ne_of_lt (blk_lt (g := gb153) (o := .cells #[.slice A0_0 l0_0.length c0_0, .slice A0_1 l0_1.length c0_1] 24 (0, 0)) (by (with_reducible repeat (first | refine blk_drewN ?_ _ | refine blk_drew ?_ | refine blk_alloc ?_ _)); exact BK153.out)) : gb153 ≠ gb155)); have n7_ := Aside0.mk ((by rw [hg]; exact Nat.ne_of_gt (blk_lt (g := gb153) (o := .cells #[.slice A0_0 l0_0.length c0_0, .slice A0_1 l0_1.length c0_1] 24 (0, 0)) (by (with_reducible repeat (first | refine blk_drewN ?_ _ | refine blk_drew ?_ | refine blk_alloc ?_ _)); exact BK153.out)) : gb155 ≠ gb153)); have n8_ := Aside0.mk ((by rw [hg]; exact Nat.ne_of_lt (blk_lt (g := gb154) (o := .cells #[.slice none 0 0, .slice none 0 0] 24 (0, 0)) (by (with_reducible repeat (first | refine blk_drewN ?_ _ | refine blk_drew ?_ | refine blk_alloc ?_ _)); exact BK154.out)) : gb154 ≠ gb155)); have n9_ := Aside0.mk ((by rw [hg]; exact Nat.ne_of_gt (blk_lt (g := gb154) (o := .cells #[.slice none 0 0, .slice none 0 0] 24 (0, 0)) (by (with_reducible repeat (first | refine blk_drewN ?_ _ | refine blk_drew ?_ | refine blk_alloc ?_ _)); exact BK154.out)) : gb155 ≠ gb154)); clear BK153; clear BK154; clear HB; have BK153 := n0_; have BK154 := n1_; have HB := n2_; have BK155 := n3_; have GW155 := n4_; have GE155 := n5_; have NB153_155 := n6_; have NB155_153 := n7_; have NB154_155 := n8_; have NB155_154 := n9_; clear n0_ n1_ n2_ n3_ n4_ n5_ n6_ n7_ n8_ n9_; clear hb hbox hg; have hnb10 := NB153_154.out; have hnc10 := NB154_153.out; have hnb11 := NB153_155.out; have hnc11 := NB155_153.out; have hcz12_0 : w9.cell? ⟨gb153, 0, none⟩ = some (.slice A0_0 l0_0.length c0_0) := (blk_cell BK153.out 0).trans rfl; have hcz12_1 : w9.cell? ⟨gb153, 1, none⟩ = some (.slice A0_1 l0_1.length c0_1) := (blk_cell BK153.out 1).trans rfl; have hfz12_0 := blk_frozen BK153.out 0; have hfz12_1 := blk_frozen BK153.out 1) | ((with_reducible refine gate_callee (f := 17) rfl ?_); refine goesL_ (some 17) rfl rfl Try.func17 (by kernel_rfl) rfl #[.agg #[.slice A0_0 l0_0.length c0_0, .slice A0_1 l0_1.length c0_1], .int .i64 (l0_0.length : Int)] rfl (by (try simp only [List.map_toArray, List.map_cons, List.map_nil]); first | done | rfl | (simp only [List.length_drop, List.length_take]; rfl)) ?_; (with_reducible refine (split_Check.calls k _ _ l0_0 _ _ l0_1 (l0_0.length : Int) t156 _ ?side1 ?side2 ?side3 ?side4 A3.out).mono ?_); (case side1 => repeat (first | exact (Kd.C_below HR0_0.out HB.out) | (with_reducible refine Kd.C_alloc ?_ _) | (with_reducible refine Kd.C_drewN ?_ _) | (with_reducible refine Kd.C_drew ?_))); (case side2 => exact HC0_0.out); (case side3 => repeat (first | exact (Kd.C_below HR0_1.out HB.out) | (with_reducible refine Kd.C_alloc ?_ _) | (with_reducible refine Kd.C_drewN ?_ _) | (with_reducible refine Kd.C_drew ?_))); (case side4 => exact HC0_1.out); rintro e w13 ⟨rfl, hb⟩; refine ⟨_, rfl, ?_⟩; have n0_ := Aside0.mk (blk_below (g := gb153) (o := .cells #[.slice A0_0 l0_0.length c0_0, .slice A0_1 l0_1.length c0_1] 24 (0, 0)) (by (with_reducible repeat (first | refine blk_drewN ?_ _ | refine blk_drew ?_ | refine blk_alloc ?_ _)); exact BK153.out) hb); have n1_ := Aside0.mk (blk_below (g := gb154) (o := .cells #[.slice none 0 0, .slice none 0 0] 24 (0, 0)) (by (with_reducible repeat (first | refine blk_drewN ?_ _ | refine blk_drew ?_ | refine blk_alloc ?_ _)); exact BK154.out) hb); have n2_ := Aside0.mk (blk_below (g := gb155) (o := .cells #[.slice none 0 0, .slice none 0 0] 24 (0, 0)) (by (with_reducible repeat (first | refine blk_drewN ?_ _ | refine blk_drew ?_ | refine blk_alloc ?_ _)); exact BK155.out) hb); have n3_ := Aside0.mk (below_step (by repeat (first | (with_reducible first | exact HB.out | apply below_alloc | apply pw_below_drewN | apply below_drew1 | refine below_set ?_ GE153.out | refine below_set ?_ GE154.out | refine below_set ?_ GE155.out) | exact HB.out)) hb); clear BK153; clear BK154; clear BK155; clear HB; have BK153 := n0_; have BK154 := n1_; have BK155 := n2_; have HB := n3_; clear n0_ n1_ n2_ n3_; (try clear hb); (try clear hb2); (try clear hk); (try clear hi); have hcz14_0 : w13.cell? ⟨gb153, 0, none⟩ = some (.slice A0_0 l0_0.length c0_0) := (blk_cell BK153.out 0).trans rfl; have hcz14_1 : w13.cell? ⟨gb153, 1, none⟩ = some (.slice A0_1 l0_1.length c0_1) := (blk_cell BK153.out 1).trans rfl; have hfz14_0 := blk_frozen BK153.out 0; have hfz14_1 := blk_frozen BK153.out 1) | ((with_reducible refine gate_callee (f := 39) rfl ?_); refine goesL_ (some 22) rfl rfl Try.func39 (by kernel_rfl) rfl #[.agg #[.slice A0_0 l0_0.length c0_0, .slice A0_1 l0_1.length c0_1]] rfl (by (try simp only [List.map_toArray, List.map_cons, List.map_nil]); first | done | rfl | (simp only [List.length_drop, List.length_take]; rfl)) ?_; (with_reducible refine (split_parts.calls k _ _ l0_0 _ _ l0_1 t157 _ ?side1 ?side2 ?side3 ?side4 A5.out).mono ?_); (case side1 => repeat (first | exact (Kd.C_below HR0_0.out HB.out) | (with_reducible refine Kd.C_alloc ?_ _) | (with_reducible refine Kd.C_drewN ?_ _) | (with_reducible refine Kd.C_drew ?_))); (case side2 => exact HC0_0.out); (case side3 => repeat (first | exact (Kd.C_below HR0_1.out HB.out) | (with_reducible refine Kd.C_alloc ?_ _) | (with_reducible refine Kd.C_drewN ?_ _) | (with_reducible refine Kd.C_drew ?_))); (case side4 => exact HC0_1.out); rintro e w15 ⟨v158, rfl, ho0, hb⟩; refine ⟨_, rfl, ?_⟩; have n0_ := Aside0.mk (Kd.R_lower ho0 (below_size (by repeat (first | (with_reducible first | exact HB.out | apply below_alloc | apply pw_below_drewN | apply below_drew1 | refine below_set ?_ GE153.out | refine below_set ?_ GE154.out | refine below_set ?_ GE155.out) | exact HB.out)))); have n1_ := Aside0.mk (blk_below (g := gb153) (o := .cells #[.slice A0_0 l0_0.length c0_0, .slice A0_1 l0_1.length c0_1] 24 (0, 0)) (by (with_reducible repeat (first | refine blk_drewN ?_ _ | refine blk_drew ?_ | refine blk_alloc ?_ _)); exact BK153.out) hb); have n2_ := Aside0.mk (blk_below (g := gb154) (o := .cells #[.slice none 0 0, .slice none 0 0] 24 (0, 0)) (by (with_reducible repeat (first | refine blk_drewN ?_ _ | refine blk_drew ?_ | refine blk_alloc ?_ _)); exact BK154.out) hb); have n3_ := Aside0.mk (blk_below (g := gb155) (o := .cells #[.slice none 0 0, .slice none 0 0] 24 (0, 0)) (by (with_reducible repeat (first | refine blk_drewN ?_ _ | refine blk_drew ?_ | refine blk_alloc ?_ _)); exact BK155.out) hb); have n4_ := Aside0.mk (below_step (by repeat (first | (with_reducible first | exact HB.out | apply below_alloc | apply pw_below_drewN | apply below_drew1 | refine below_set ?_ GE153.out | refine below_set ?_ GE154.out | refine below_set ?_ GE155.out) | exact HB.out)) hb); clear BK153; clear BK154; clear BK155; clear HB; have HO159 := n0_; have BK153 := n1_; have BK154 := n2_; have BK155 := n3_; have HB := n4_; clear n0_ n1_ n2_ n3_ n4_; (try clear hb); (try clear hb2); (try clear hk); (try clear hi); (try clear ho0)))
    (try simp only [Act.put, List.setIfInBounds_toArray, List.set_cons_zero, List.set_cons_succ])
    go_cut [37] (fun v37 wc => ∃ (kq : Nat) (x37_5 : Bool), v37 = .bool x37_5 ∧ Aside0 (split_Halve.j0 kq a1 t157 x37_5 = some (r1, r2, r3, r4, r5)) ∧ Aside0 (kq ≤ k) ∧ Aside0 (Kd.R k90 90 wc w.heap.size (fun _ => True) v158 t157) ∧ Aside0 (wc.heap[gb153]? = some (.cells #[(.slice A0_0 l0_0.length c0_0), (.slice A0_1 l0_1.length c0_1)] 24 (0, 0))) ∧ Aside0 (wc.heap[gb154]? = some (.cells #[(.slice none 0 0), (.slice none 0 0)] 24 (0, 0))) ∧ Aside0 (wc.heap[gb155]? = some (.cells #[(.slice none 0 0), (.slice none 0 0)] 24 (0, 0))) ∧ Aside0 (Below w.heap.size w wc))
    case first =>
      have H := HC6.out
      clear HC6
      by_cases c16 : a1 < 0
      · rw [if_pos c16] at H
        have c16b0 : decide (a1 < 0) = true := decide_eq_true c16
        clear c16
        (first | rw [c16b0] | (simp only [i64_w, i32_w]; rw [c16b0]) | skip)
        have H' := Aside0.mk H
        clear H
        go_wp2
        go_meet
        case rel => exact ⟨_, (true), (by first | rfl | (simp; done) | (simp [*]; done)), H', ⟨by first | omega | exact Nat.le_refl _⟩, ⟨by (with_reducible repeat (first | apply Kd.R_alloc | apply Kd.R_drewN | apply Kd.R_drew)); exact HO159.out⟩, ⟨by (with_reducible repeat (first | refine blk_drewN ?_ _ | refine blk_drew ?_ | refine blk_alloc ?_ _)); exact BK153.out⟩, ⟨by (with_reducible repeat (first | refine blk_drewN ?_ _ | refine blk_drew ?_ | refine blk_alloc ?_ _)); exact BK154.out⟩, ⟨by (with_reducible repeat (first | refine blk_drewN ?_ _ | refine blk_drew ?_ | refine blk_alloc ?_ _)); exact BK155.out⟩, ⟨by repeat (first | (with_reducible first | exact HB.out | apply below_alloc | apply pw_below_drewN | apply below_drew1 | refine below_set ?_ GE153.out | refine below_set ?_ GE154.out | refine below_set ?_ GE155.out) | exact HB.out)⟩⟩
      · rw [if_neg c16] at H
        have c16b0 : decide (a1 < 0) = false := decide_eq_false c16
        clear c16
        (first | rw [c16b0] | (simp only [i64_w, i32_w]; rw [c16b0]) | skip)
        by_cases c17 : a1 ≥ (l0_0.length : Int)
        · rw [if_pos c17] at H
          have c17b0 : decide ((l0_0.length : Int) ≤ a1) = true := decide_eq_true c17
          clear c17
          have H' := Aside0.mk H
          clear H
          go_wp2
          go_meet
          case rel => exact ⟨_, (true), (by first | rfl | (simp; done) | (simp [*]; done)), H', ⟨by first | omega | exact Nat.le_refl _⟩, ⟨by (with_reducible repeat (first | apply Kd.R_alloc | apply Kd.R_drewN | apply Kd.R_drew)); exact HO159.out⟩, ⟨by (with_reducible repeat (first | refine blk_drewN ?_ _ | refine blk_drew ?_ | refine blk_alloc ?_ _)); exact BK153.out⟩, ⟨by (with_reducible repeat (first | refine blk_drewN ?_ _ | refine blk_drew ?_ | refine blk_alloc ?_ _)); exact BK154.out⟩, ⟨by (with_reducible repeat (first | refine blk_drewN ?_ _ | refine blk_drew ?_ | refine blk_alloc ?_ _)); exact BK155.out⟩, ⟨by repeat (first | (with_reducible first | exact HB.out | apply below_alloc | apply pw_below_drewN | apply below_drew1 | refine below_set ?_ GE153.out | refine below_set ?_ GE154.out | refine below_set ?_ GE155.out) | exact HB.out)⟩⟩
        · rw [if_neg c17] at H
          have c17b0 : decide ((l0_0.length : Int) ≤ a1) = false := decide_eq_false c17
          clear c17
          by_cases c18 : 0 ≤ a1
          · rw [if_pos c18] at H
            have c18b0 : decide (0 ≤ a1) = true := decide_eq_true c18
            clear c18
            by_cases c19 : a1 < (t157.length : Int)
            · rw [if_pos c19] at H
              have c19b0 : decide (a1 < (t157.length : Int)) = true := decide_eq_true c19
              clear c19
              have H' := Aside0.mk H
              clear H
              obtain ⟨Ao20, co20, eo20⟩ := Kd.R_slice HO159.out
              subst eo20
              have p160 : 0 ≤ (a1 : Int) := of_decide_eq_true (by first | (with_reducible assumption) | assumption)
              have q160 : a1 < (t157.length : Int) := of_decide_eq_true (by first | (with_reducible assumption) | assumption)
              obtain ⟨ad160, e160, hx160_0, hx160_1⟩ := at_T90 (Kd.R_reads' HO159.out).2.2 a1 p160 q160
              cases e160
              replace p160 := eq_true p160
              replace q160 := eq_true q160
              go_wp2
              go_meet
              case rel => exact ⟨_, ((((rd_T90 t157 a1).f0) == 8)), (by first | rfl | (simp; done) | (simp [*]; done)), H', ⟨by first | omega | exact Nat.le_refl _⟩, ⟨by (with_reducible repeat (first | apply Kd.R_alloc | apply Kd.R_drewN | apply Kd.R_drew)); exact HO159.out⟩, ⟨by (with_reducible repeat (first | refine blk_drewN ?_ _ | refine blk_drew ?_ | refine blk_alloc ?_ _)); exact BK153.out⟩, ⟨by (with_reducible repeat (first | refine blk_drewN ?_ _ | refine blk_drew ?_ | refine blk_alloc ?_ _)); exact BK154.out⟩, ⟨by (with_reducible repeat (first | refine blk_drewN ?_ _ | refine blk_drew ?_ | refine blk_alloc ?_ _)); exact BK155.out⟩, ⟨by repeat (first | (with_reducible first | exact HB.out | apply below_alloc | apply pw_below_drewN | apply below_drew1 | refine below_set ?_ GE153.out | refine below_set ?_ GE154.out | refine below_set ?_ GE155.out) | exact HB.out)⟩⟩
            · rw [if_neg c19] at H
              exact absurd H (by simp)
          · rw [if_neg c18] at H
            exact absurd H (by simp)
    case rest =>
      clear HC6
      try clear c1
      try clear p1
      try clear q1
      try clear hx1
      try clear p2
      try clear c3
      try clear c4
      try clear c4b0
      try clear c4b1
      try clear c10
      try clear c11
      try clear c15
      try clear c16
      try clear c16b0
      try clear p16
      try clear q16
      try clear hx16
      try clear c17
      try clear c17b0
      try clear c18
      try clear c18b0
      try clear c19
      try clear c19b0
      try clear hcz12_0
      try clear hcz12_1
      try clear hcz14_0
      try clear hcz14_1
      try clear hfz12_0
      try clear hfz12_1
      try clear hfz14_0
      try clear hfz14_1
      try clear hx160_0
      try clear hx160_1
      try clear p160
      try clear q160
      obtain ⟨kq, x37_5, rfl, HA, HJ5, HO_8, BK153, BK154, BK155, HB⟩ := hcut
      cases kq with
      | zero => exact absurd HA.out (by simp [split_Halve.j0])
      | succ kj5 =>
        have H := HA.out
        clear HA
        simp only [split_Halve.j0] at H
        by_cases c21 : x37_5 = true
        · subst c21
          have H1 : (some (([] : List Int), ([] : List Int), ([] : List Int), ([] : List Int), 1)) = some (r1, r2, r3, r4, r5) := by rw [if_pos rfl] at H; exact H
          clear H
          have H := H1
          clear H1
          simp only [Option.some.injEq, Prod.mk.injEq] at H
          obtain ⟨rfl, rfl, rfl, rfl, rfl⟩ := H
          have hnb22 := NB154_153.out
          have hnc22 := NB153_154.out
          have hnb23 := NB154_155.out
          have hnc23 := NB155_154.out
          have hcz24_0 : wc.cell? ⟨gb154, 0, none⟩ = some (.slice none 0 0) := (blk_cell BK154.out 0).trans rfl
          have hcz24_1 : wc.cell? ⟨gb154, 1, none⟩ = some (.slice none 0 0) := (blk_cell BK154.out 1).trans rfl
          have hfz24_0 := blk_frozen BK154.out 0
          have hfz24_1 := blk_frozen BK154.out 1
          have hnb25 := NB155_153.out
          have hnc25 := NB153_155.out
          have hcz26_0 : wc.cell? ⟨gb155, 0, none⟩ = some (.slice none 0 0) := (blk_cell BK155.out 0).trans rfl
          have hcz26_1 : wc.cell? ⟨gb155, 1, none⟩ = some (.slice none 0 0) := (blk_cell BK155.out 1).trans rfl
          have hfz26_0 := blk_frozen BK155.out 0
          have hfz26_1 := blk_frozen BK155.out 1
          go_wp2
          refine bodyPost_ret (results_list (rs := [.cell 4 24, .cell 5 24, .tmp 6]) rfl (by simp) (.cell gb154 24 #[.slice none 0 0, .slice none 0 0] (0, 0) _ rfl (by (with_reducible repeat (first | refine blk_drewN ?_ _ | refine blk_drew ?_ | refine blk_alloc ?_ _)); refine blk_far ?_ NB154_155.out _; (with_reducible repeat (first | refine blk_drewN ?_ _ | refine blk_drew ?_ | refine blk_alloc ?_ _)); refine blk_far ?_ NB154_155.out _; (with_reducible repeat (first | refine blk_drewN ?_ _ | refine blk_drew ?_ | refine blk_alloc ?_ _)); refine blk_put (cs := #[.slice none 0 0, .slice none 0 0]) ?_ 1 _ rfl; (with_reducible repeat (first | refine blk_drewN ?_ _ | refine blk_drew ?_ | refine blk_alloc ?_ _)); refine blk_put (cs := #[.slice none 0 0, .slice none 0 0]) ?_ 0 _ rfl; (with_reducible repeat (first | refine blk_drewN ?_ _ | refine blk_drew ?_ | refine blk_alloc ?_ _)); exact BK154.out) Try.underlying24 rfl (by kernel_rfl) (.cell gb155 24 #[.slice none 0 0, .slice none 0 0] (0, 0) _ rfl (by (with_reducible repeat (first | refine blk_drewN ?_ _ | refine blk_drew ?_ | refine blk_alloc ?_ _)); refine blk_put (cs := #[.slice none 0 0, .slice none 0 0]) ?_ 1 _ rfl; (with_reducible repeat (first | refine blk_drewN ?_ _ | refine blk_drew ?_ | refine blk_alloc ?_ _)); refine blk_put (cs := #[.slice none 0 0, .slice none 0 0]) ?_ 0 _ rfl; (with_reducible repeat (first | refine blk_drewN ?_ _ | refine blk_drew ?_ | refine blk_alloc ?_ _)); refine blk_far ?_ NB155_154.out _; (with_reducible repeat (first | refine blk_drewN ?_ _ | refine blk_drew ?_ | refine blk_alloc ?_ _)); refine blk_far ?_ NB155_154.out _; (with_reducible repeat (first | refine blk_drewN ?_ _ | refine blk_drew ?_ | refine blk_alloc ?_ _)); exact BK155.out) Try.underlying24 rfl (by kernel_rfl) (.tmp .nil)))) rfl ?_
          exact ⟨_, _, _, _, by first | rfl | (simp [errW_none, errW_some] <;> rfl) | (simp [*, errW_none, errW_some] <;> rfl), by first | exact Kd.R_nil _ _ _ _ _ | exact Kd.N_nil _ _ _ _ _ | exact Kd.V_nil _ _ _ _ _ | exact Kd.Q_nil _ _ _ _ _ | exact Kd.S_nil _ _ _ _ _, by first | exact Kd.R_nil _ _ _ _ _ | exact Kd.N_nil _ _ _ _ _ | exact Kd.V_nil _ _ _ _ _ | exact Kd.Q_nil _ _ _ _ _ | exact Kd.S_nil _ _ _ _ _, by first | exact Kd.R_nil _ _ _ _ _ | exact Kd.N_nil _ _ _ _ _ | exact Kd.V_nil _ _ _ _ _ | exact Kd.Q_nil _ _ _ _ _ | exact Kd.S_nil _ _ _ _ _, by first | exact Kd.R_nil _ _ _ _ _ | exact Kd.N_nil _ _ _ _ _ | exact Kd.V_nil _ _ _ _ _ | exact Kd.Q_nil _ _ _ _ _ | exact Kd.S_nil _ _ _ _ _, by repeat (first | (with_reducible first | exact HB.out | apply below_alloc | apply pw_below_drewN | apply below_drew1 | refine below_set ?_ GE153.out | refine below_set ?_ GE154.out | refine below_set ?_ GE155.out) | exact HB.out)⟩
        · replace c21 := Bool.eq_false_iff.mpr c21
          subst c21
          have H1 : (if 0 ≤ a1 then (if a1 < (t157.length : Int) then ((some (t157.set (a1 : Int).toNat (⟨wrap64 (((rd_T90 t157 a1).f0) + 1), wrap64 (2 * ((rd_T90 t157 a1).f1))⟩ : S90) : List (S90))).bind fun y163 => ((split_region.f kj5 y163).bind fun bt164 => ((some (y163.set (a1 : Int).toNat (⟨(rd_T90 y163 a1).f0, wrap64 (((rd_T90 y163 a1).f1) + 1)⟩ : S90) : List (S90))).bind fun y172 => ((split_region.f kj5 y172).bind fun bt173 => (if (((rd_T90 y172 a1).f0) == ((rd_T90 t157 a1).f0) && (((rd_T90 y172 a1).f1) == ((rd_T90 t157 a1).f1))) = true then (none) else (some (bt164.1, bt164.2, bt173.1, bt173.2, 0))))))) else (none)) else (none)) = some (r1, r2, r3, r4, r5) := by rw [if_neg (show ¬ (false = true) by decide)] at H; exact H
          clear H
          have H := H1
          clear H1
          by_cases c27 : 0 ≤ a1
          · rw [if_pos c27] at H
            have c27b0 : decide (0 ≤ a1) = true := decide_eq_true c27
            clear c27
            by_cases c28 : a1 < (t157.length : Int)
            · rw [if_pos c28] at H
              have c28b0 : decide (a1 < (t157.length : Int)) = true := decide_eq_true c28
              clear c28
              obtain ⟨y163, hy163⟩ : ∃ y_ : List (S90), y_ = (t157.set (a1 : Int).toNat (⟨wrap64 (((rd_T90 t157 a1).f0) + 1), wrap64 (2 * ((rd_T90 t157 a1).f1))⟩ : S90)) := ⟨_, rfl⟩
              replace H : ((split_region.f kj5 y163).bind fun bt164 => ((some (y163.set (a1 : Int).toNat (⟨(rd_T90 y163 a1).f0, wrap64 (((rd_T90 y163 a1).f1) + 1)⟩ : S90) : List (S90))).bind fun y172 => ((split_region.f kj5 y172).bind fun bt173 => (if (((rd_T90 y172 a1).f0) == ((rd_T90 t157 a1).f0) && (((rd_T90 y172 a1).f1) == ((rd_T90 t157 a1).f1))) = true then (none) else (some (bt164.1, bt164.2, bt173.1, bt173.2, 0)))))) = some (r1, r2, r3, r4, r5) := by first | (rw [hy163]; with_reducible exact H) | (have H2_ := (Option.bind_some _ _).symm.trans H; rw [hy163]; with_reducible exact H2_) | (have H2_ := (Option.bind_some _ _).symm.trans H; with_reducible exact H2_) | with_reducible exact H | (rw [hy163]; exact H) | exact H
              have Ny163 := Aside0.mk hy163
              clear hy163
              replace H := Option.bind_eq_some_iff.mp H
              obtain ⟨⟨t164, t167⟩, A300, H⟩ := H
              replace H : ((some (y163.set (a1 : Int).toNat (⟨(rd_T90 y163 a1).f0, wrap64 (((rd_T90 y163 a1).f1) + 1)⟩ : S90) : List (S90))).bind fun y172 => ((split_region.f kj5 y172).bind fun bt173 => (if (((rd_T90 y172 a1).f0) == ((rd_T90 t157 a1).f0) && (((rd_T90 y172 a1).f1) == ((rd_T90 t157 a1).f1))) = true then (none) else (some (t164, t167, bt173.1, bt173.2, 0))))) = some (r1, r2, r3, r4, r5) := H
              have A30 := Aside0.mk A300
              clear A300
              obtain ⟨y172, hy172⟩ : ∃ y_ : List (S90), y_ = (y163.set (a1 : Int).toNat (⟨(rd_T90 y163 a1).f0, wrap64 (((rd_T90 y163 a1).f1) + 1)⟩ : S90)) := ⟨_, rfl⟩
              replace H : ((split_region.f kj5 y172).bind fun bt173 => (if (((rd_T90 y172 a1).f0) == ((rd_T90 t157 a1).f0) && (((rd_T90 y172 a1).f1) == ((rd_T90 t157 a1).f1))) = true then (none) else (some (t164, t167, bt173.1, bt173.2, 0)))) = some (r1, r2, r3, r4, r5) := by first | (rw [hy172]; with_reducible exact H) | (have H2_ := (Option.bind_some _ _).symm.trans H; rw [hy172]; with_reducible exact H2_) | (have H2_ := (Option.bind_some _ _).symm.trans H; with_reducible exact H2_) | with_reducible exact H | (rw [hy172]; exact H) | exact H
              have Ny172 := Aside0.mk hy172
              clear hy172
              replace H := Option.bind_eq_some_iff.mp H
              obtain ⟨⟨t173, t176⟩, A320, H⟩ := H
              replace H : (if (((rd_T90 y172 a1).f0) == ((rd_T90 t157 a1).f0) && (((rd_T90 y172 a1).f1) == ((rd_T90 t157 a1).f1))) = true then (none) else (some (t164, t167, t173, t176, 0))) = some (r1, r2, r3, r4, r5) := H
              have A32 := Aside0.mk A320
              clear A320
              by_cases c33 : (((rd_T90 y172 a1).f0) == ((rd_T90 t157 a1).f0) && (((rd_T90 y172 a1).f1) == ((rd_T90 t157 a1).f1))) = true
              · rw [if_pos c33] at H
                exact absurd H (by simp)
              · rw [if_neg c33] at H
                have c33b0 : (((rd_T90 y172 a1).f0) == ((rd_T90 t157 a1).f0) && (((rd_T90 y172 a1).f1) == ((rd_T90 t157 a1).f1))) = false := by simpa using c33
                (try (have c33b1 : decide (((rd_T90 y172 a1).f0) = ((rd_T90 t157 a1).f0) && (((rd_T90 y172 a1).f1) == ((rd_T90 t157 a1).f1))) = false := by simpa using c33))
                (try (have c33b2 : (((rd_T90 y172 a1).f0) == ((rd_T90 t157 a1).f0) && (((rd_T90 y172 a1).f1) == ((rd_T90 t157 a1).f1))) = false := by simpa using c33))
                (try (have c33b3 : ¬ (((rd_T90 y172 a1).f0) = ((rd_T90 t157 a1).f0) && (((rd_T90 y172 a1).f1) == ((rd_T90 t157 a1).f1))) := by simpa using c33))
                clear c33
                simp only [Option.some.injEq, Prod.mk.injEq] at H
                obtain ⟨rfl, rfl, rfl, rfl, rfl⟩ := H
                obtain ⟨Ao34, co34, eo34⟩ := Kd.R_slice HO_8.out
                subst eo34
                have p161 : 0 ≤ (a1 : Int) := of_decide_eq_true (by first | (with_reducible assumption) | assumption)
                have q161 : a1 < (t157.length : Int) := of_decide_eq_true (by first | (with_reducible assumption) | assumption)
                obtain ⟨ad161, e161, hx161_0, hx161_1⟩ := at_T90 (Kd.R_reads' HO_8.out).2.2 a1 p161 q161
                cases e161
                replace p161 := eq_true p161
                replace q161 := eq_true q161
                try go_wp2_with (first | ((with_reducible refine gate_dst (N := 9) rfl ?_); refine box_event ?hg (N := 9) ?hd (cs := #[.int .i64 0, .int .i64 0]) (t := 90) ?hr ?_; (case hd => rfl); (case hg => rfl); (case hr => first | (go_simp; done) | (go_simp; rfl)); intro gb162 hg w35 hbox hb; have n0_ := Aside0.mk (Kd.R_below (Kd.R_elderB (by (with_reducible repeat (first | apply Kd.R_alloc | apply Kd.R_drewN | apply Kd.R_drew)); exact HO_8.out) gb162 (Nat.le_of_eq hg.symm)) hb); have n1_ := Aside0.mk (blk_below (g := gb153) (o := .cells #[.slice A0_0 l0_0.length c0_0, .slice A0_1 l0_1.length c0_1] 24 (0, 0)) (by (with_reducible repeat (first | refine blk_drewN ?_ _ | refine blk_drew ?_ | refine blk_alloc ?_ _)); exact BK153.out) hb); have n2_ := Aside0.mk (blk_below (g := gb154) (o := .cells #[.slice none 0 0, .slice none 0 0] 24 (0, 0)) (by (with_reducible repeat (first | refine blk_drewN ?_ _ | refine blk_drew ?_ | refine blk_alloc ?_ _)); exact BK154.out) hb); have n3_ := Aside0.mk (blk_below (g := gb155) (o := .cells #[.slice none 0 0, .slice none 0 0] 24 (0, 0)) (by (with_reducible repeat (first | refine blk_drewN ?_ _ | refine blk_drew ?_ | refine blk_alloc ?_ _)); exact BK155.out) hb); have n4_ := Aside0.mk (below_step (by repeat (first | (with_reducible first | exact HB.out | apply below_alloc | apply pw_below_drewN | apply below_drew1 | refine below_set ?_ GE153.out | refine below_set ?_ GE154.out | refine below_set ?_ GE155.out) | exact HB.out)) hb); have n5_ := Aside0.mk (hbox); have n6_ := Aside0.mk ((by rw [hg]; exact (below_size (by repeat (first | (with_reducible first | exact HB.out | apply below_alloc | apply pw_below_drewN | apply below_drew1 | refine below_set ?_ GE153.out | refine below_set ?_ GE154.out | refine below_set ?_ GE155.out) | exact HB.out))) : w.heap.size ≤ gb162)); have n7_ := Aside0.mk ((by rw [hg]; exact (below_size (by repeat (first | (with_reducible first | exact HB.out | apply below_alloc | apply pw_below_drewN | apply below_drew1 | refine below_set ?_ GE153.out | refine below_set ?_ GE154.out | refine below_set ?_ GE155.out) | exact HB.out))) : w.heap.size ≤ gb162)); have n8_ := Aside0.mk ((by rw [hg]; exact Nat.ne_of_lt (blk_lt (g := gb153) (o := .cells #[.slice A0_0 l0_0.length c0_0, .slice A0_1 l0_1.length c0_1] 24 (0, 0)) (by (with_reducible repeat (first | refine blk_drewN ?_ _ | refine blk_drew ?_ | refine blk_alloc ?_ _)); exact BK153.out)) : gb153 ≠ gb162)); have n9_ := Aside0.mk ((by rw [hg]; exact Nat.ne_of_gt (blk_lt (g := gb153) (o := .cells #[.slice A0_0 l0_0.length c0_0, .slice A0_1 l0_1.length c0_1] 24 (0, 0)) (by (with_reducible repeat (first | refine blk_drewN ?_ _ | refine blk_drew ?_ | refine blk_alloc ?_ _)); exact BK153.out)) : gb162 ≠ gb153)); have n10_ := Aside0.mk ((by rw [hg]; exact Nat.ne_of_lt (blk_lt (g := gb154) (o := .cells #[.slice none 0 0, .slice none 0 0] 24 (0, 0)) (by (with_reducible repeat (first | refine blk_drewN ?_ _ | refine blk_drew ?_ | refine blk_alloc ?_ _)); exact BK154.out)) : gb154 ≠ gb162)); have n11_ := Aside0.mk ((by rw [hg]; exact Nat.ne_of_gt (blk_lt (g := gb154) (o := .cells #[.slice none 0 0, .slice none 0 0] 24 (0, 0)) (by (with_reducible repeat (first | refine blk_drewN ?_ _ | refine blk_drew ?_ | refine blk_alloc ?_ _)); exact BK154.out)) : gb162 ≠ gb154)); have n12_ := Aside0.mk ((by rw [hg]; exact Nat.ne_of_lt (blk_lt (g := gb155) (o := .cells #[.slice none 0 0, .slice none 0 0] 24 (0, 0)) (by (with_reducible repeat (first | refine blk_drewN ?_ _ | refine blk_drew ?_ | refine blk_alloc ?_ _)); exact BK155.out)) : gb155 ≠ gb162)); have n13_ := Aside0.mk ((by rw [hg]; exact Nat.ne_of_gt (blk_lt (g := gb155) (o := .cells #[.slice none 0 0, .slice none 0 0] 24 (0, 0)) (by (with_reducible repeat (first | refine blk_drewN ?_ _ | refine blk_drew ?_ | refine blk_alloc ?_ _)); exact BK155.out)) : gb162 ≠ gb155)); clear HO_8; clear BK153; clear BK154; clear BK155; clear HB; have HO_8 := n0_; have BK153 := n1_; have BK154 := n2_; have BK155 := n3_; have HB := n4_; have BK162 := n5_; have GW162 := n6_; have GE162 := n7_; have NB153_162 := n8_; have NB162_153 := n9_; have NB154_162 := n10_; have NB162_154 := n11_; have NB155_162 := n12_; have NB162_155 := n13_; clear n0_ n1_ n2_ n3_ n4_ n5_ n6_ n7_ n8_ n9_ n10_ n11_ n12_ n13_; clear hb hbox hg; have hnb36 := NB162_153.out; have hnc36 := NB153_162.out; have hnb37 := NB162_154.out; have hnc37 := NB154_162.out; have hnb38 := NB162_155.out; have hnc38 := NB155_162.out; have hcz39_0 : w35.cell? ⟨gb162, 0, none⟩ = some (.int .i64 0) := (blk_cell BK162.out 0).trans rfl; have hcz39_1 : w35.cell? ⟨gb162, 1, none⟩ = some (.int .i64 0) := (blk_cell BK162.out 1).trans rfl; have hfz39_0 := blk_frozen BK162.out 0; have hfz39_1 := blk_frozen BK162.out 1) | ((with_reducible refine gate_store (t := 90) (p := 9) rfl ?_); refine store_event (t := 90) (p := 9) (v := ?vo_w40) (w1 := ((w35.setCell ⟨gb162, 0, none⟩ (.int .i64 ((rd_T90 t157 a1).f0))).setCell ⟨gb162, 1, none⟩ (.int .i64 ((rd_T90 t157 a1).f1)))) ?hg ?ho ?hn ?hr ?_; (case ho => rfl); (case hg => rfl); (case hn => rfl); (case hr => first | (go_simp; done) | (go_simp; rfl)); intro w40 hw; have n0_ : Aside0 (Kd.R k90 90 w40 w.heap.size (fun k_ => k_ ≠ gb162) (.slice (some ad161) t157.length co34) t157) := ⟨(by rw [hw]; exact (by (with_reducible repeat (first | apply Kd.R_alloc | apply Kd.R_drewN | apply Kd.R_drew)); exact Kd.R_mono (Kd.R_far (p := ⟨gb162, 1, none⟩) (Kd.R_far (p := ⟨gb162, 0, none⟩) (Kd.R_mono HO_8.out (fun k_ hk => (⟨hk, hk.2⟩ : _ ∧ k_ ≠ gb162))) (fun _ hk => hk.2) (.int .i64 ((rd_T90 t157 a1).f0))) (fun _ hk => hk.2) (.int .i64 ((rd_T90 t157 a1).f1))) (fun _ hk => hk.1.2)))⟩; have n1_ : Aside0 (w40.heap[gb153]? = some (.cells #[.slice A0_0 l0_0.length c0_0, .slice A0_1 l0_1.length c0_1] 24 (0, 0))) := ⟨(by rw [hw]; exact (by (with_reducible repeat (first | refine blk_drewN ?_ _ | refine blk_drew ?_ | refine blk_alloc ?_ _)); refine blk_far ?_ NB153_162.out _; (with_reducible repeat (first | refine blk_drewN ?_ _ | refine blk_drew ?_ | refine blk_alloc ?_ _)); refine blk_far ?_ NB153_162.out _; (with_reducible repeat (first | refine blk_drewN ?_ _ | refine blk_drew ?_ | refine blk_alloc ?_ _)); exact BK153.out))⟩; have n2_ : Aside0 (w40.heap[gb154]? = some (.cells #[.slice none 0 0, .slice none 0 0] 24 (0, 0))) := ⟨(by rw [hw]; exact (by (with_reducible repeat (first | refine blk_drewN ?_ _ | refine blk_drew ?_ | refine blk_alloc ?_ _)); refine blk_far ?_ NB154_162.out _; (with_reducible repeat (first | refine blk_drewN ?_ _ | refine blk_drew ?_ | refine blk_alloc ?_ _)); refine blk_far ?_ NB154_162.out _; (with_reducible repeat (first | refine blk_drewN ?_ _ | refine blk_drew ?_ | refine blk_alloc ?_ _)); exact BK154.out))⟩; have n3_ : Aside0 (w40.heap[gb155]? = some (.cells #[.slice none 0 0, .slice none 0 0] 24 (0, 0))) := ⟨(by rw [hw]; exact (by (with_reducible repeat (first | refine blk_drewN ?_ _ | refine blk_drew ?_ | refine blk_alloc ?_ _)); refine blk_far ?_ NB155_162.out _; (with_reducible repeat (first | refine blk_drewN ?_ _ | refine blk_drew ?_ | refine blk_alloc ?_ _)); refine blk_far ?_ NB155_162.out _; (with_reducible repeat (first | refine blk_drewN ?_ _ | refine blk_drew ?_ | refine blk_alloc ?_ _)); exact BK155.out))⟩; have n4_ : Aside0 (w40.heap[gb162]? = some (.cells #[.int .i64 ((rd_T90 t157 a1).f0), .int .i64 ((rd_T90 t157 a1).f1)] 90 (0, 0))) := ⟨(by rw [hw]; exact (by (with_reducible repeat (first | refine blk_drewN ?_ _ | refine blk_drew ?_ | refine blk_alloc ?_ _)); refine blk_put (cs := #[.int .i64 ((rd_T90 t157 a1).f0), .int .i64 0]) ?_ 1 _ rfl; (with_reducible repeat (first | refine blk_drewN ?_ _ | refine blk_drew ?_ | refine blk_alloc ?_ _)); refine blk_put (cs := #[.int .i64 0, .int .i64 0]) ?_ 0 _ rfl; (with_reducible repeat (first | refine blk_drewN ?_ _ | refine blk_drew ?_ | refine blk_alloc ?_ _)); exact BK162.out))⟩; have n5_ : Aside0 (Below w.heap.size w w40) := ⟨(by rw [hw]; exact (by repeat (first | (with_reducible first | exact HB.out | apply below_alloc | apply pw_below_drewN | apply below_drew1 | refine below_set ?_ GE153.out | refine below_set ?_ GE154.out | refine below_set ?_ GE155.out | refine below_set ?_ GE162.out) | exact HB.out)))⟩; clear hw; clear HO_8; clear BK153; clear BK154; clear BK155; clear BK162; clear HB; have HO_8 := n0_; have BK153 := n1_; have BK154 := n2_; have BK155 := n3_; have BK162 := n4_; have HB := n5_; clear n0_ n1_ n2_ n3_ n4_ n5_; have hcz41_0 : w40.cell? ⟨gb162, 0, none⟩ = some (.int .i64 ((rd_T90 t157 a1).f0)) := (blk_cell BK162.out 0).trans rfl; have hcz41_1 : w40.cell? ⟨gb162, 1, none⟩ = some (.int .i64 ((rd_T90 t157 a1).f1)) := (blk_cell BK162.out 1).trans rfl; have hfz41_0 := blk_frozen BK162.out 0; have hfz41_1 := blk_frozen BK162.out 1; have p29 : 0 ≤ (a1 : Int) := of_decide_eq_true (by first | (with_reducible assumption) | assumption); have q29 : (a1 : Int) < ((t157.length : Int) : Int) := of_decide_eq_true (by first | (with_reducible assumption) | assumption); obtain ⟨go29, co29, eo29, gb29, gl29, cl29, HG29⟩ := Kd.R_form HO_8.out (by omega); (first | cases eo29 | (injection eo29 with ea_ en_ ec_; (first | subst ea_ | (injection ea_ with ea_; subst ea_)); subst ec_; clear en_)); have GB29 := Aside0.mk gb29; have GG29 := Aside0.mk HG29; clear gb29 gl29 HG29; (first | simp only [add_plain] at hx161_0 | skip); (first | simp only [add_plain] at hx161_1 | skip); obtain ⟨ce29, hcl29, hM29, hcc29, hfr29⟩ := Kd.R_elem HO_8.out z90 (a1 : Int) p29 q29; obtain rfl := k90_openM hM29; have hx29_0 : w40.cell? ⟨go29, (a1 : Int).toNat * 2, none⟩ = some (.int .i64 ((rd_T90 t157 a1).f0)) := hcc29 0 _ rfl; have hx29_1 : w40.cell? ⟨go29, (a1 : Int).toNat * 2 + 1, none⟩ = some (.int .i64 ((rd_T90 t157 a1).f1)) := hcc29 1 _ rfl; have hf29_0 : w40.frozen? ⟨go29, (a1 : Int).toNat * 2, none⟩ = false := hfr29 0; have hf29_1 : w40.frozen? ⟨go29, (a1 : Int).toNat * 2 + 1, none⟩ = false := hfr29 1; clear hcl29 hcc29 hfr29 hM29; replace p29 := eq_true p29; replace q29 := eq_true q29; have HX42 := Aside0.mk (show Kd.R k90 90 w40 w.heap.size (fun k_ => k_ ≠ gb162) (.slice (some ⟨go29, 0, none⟩) t157.length co34) t157 from (by (with_reducible repeat (first | apply Kd.R_alloc | apply Kd.R_drewN | apply Kd.R_drew)); exact HO_8.out)); obtain ⟨ce42, hcl42, hM42, hcc42, hfr42⟩ := Kd.R_elem HX42.out z90 (a1 : Int) (of_decide_eq_true (by first | (with_reducible assumption) | assumption)) (by have h_ : (a1 : Int) < ((t157.length : Int) : Int) := of_decide_eq_true (by first | (with_reducible assumption) | assumption); first | exact h_ | (have e_ := (Kd.R_reads' HO_8.out).1; omega) | simpa using h_); obtain rfl := k90_openM hM42; have HP42 := Kd.R_seg HX42.out (a1 : Int) (of_decide_eq_true (by first | (with_reducible assumption) | assumption)) (by have h_ : (a1 : Int) < ((t157.length : Int) : Int) := of_decide_eq_true (by first | (with_reducible assumption) | assumption); first | exact h_ | (have e_ := (Kd.R_reads' HO_8.out).1; omega) | simpa using h_) (seg := [.int .i64 (wrap64 (((rd_T90 t157 a1).f0) + 1)), .int .i64 (wrap64 (2 * ((rd_T90 t157 a1).f1)))]) (j := 0) hcl42 hcc42 (show 2 ≤ 2 from by decide) (x' := (⟨wrap64 (((rd_T90 t157 a1).f0) + 1), wrap64 (2 * ((rd_T90 t157 a1).f1))⟩ : S90)) (k90_mkM _ _ _ (⟨wrap64 (((rd_T90 t157 a1).f0) + 1), wrap64 (2 * ((rd_T90 t157 a1).f1))⟩ : S90) ) (fun _ hk => hk); have hx42_0 := hcc42 0 _ rfl; (try simp only [show (k90).sz = 2 from rfl, Nat.mul_one, Nat.add_zero] at hx42_0); have hf42_0 := hfr42 0; (try simp only [show (k90).sz = 2 from rfl, Nat.mul_one, Nat.add_zero] at hf42_0); have hx42_1 := hcc42 1 _ rfl; (try simp only [show (k90).sz = 2 from rfl, Nat.mul_one, Nat.add_zero] at hx42_1); have hf42_1 := hfr42 1; (try simp only [show (k90).sz = 2 from rfl, Nat.mul_one, Nat.add_zero] at hf42_1); clear hcl42 hcc42 hfr42 hM42) | ((with_reducible refine gate_store (t := 90) (p := 53) rfl ?_); refine store_event (t := 90) (p := 53) (v := ?vo_w43) (w1 := ((w40.setCell ⟨go29, (a1 : Int).toNat * 2, none⟩ (.int .i64 (wrap64 (((rd_T90 t157 a1).f0) + 1)))).setCell ⟨go29, (a1 : Int).toNat * 2 + 1, none⟩ (.int .i64 (wrap64 (2 * ((rd_T90 t157 a1).f1)))))) ?hg ?ho ?hn ?hr ?_; (case ho => rfl); (case hg => rfl); (case hn => rfl); (case hr => first | (go_simp; done) | (go_simp; rfl)); intro w43 hw; have hg : w40.grownBy w43 (some go29) := (by rw [hw]; exact HP42.2); have hp_ : Kd.R k90 90 w43 w.heap.size (fun k_ => k_ ≠ gb162) (.slice (some ⟨go29, 0, none⟩) t157.length co34) y163 := (by rw [hw, Ny163.out]; exact HP42.1); clear HP42; have n0_ := Aside0.mk (hp_); have n1_ := Aside0.mk (blk_grown (g := gb153) (o := .cells #[.slice A0_0 l0_0.length c0_0, .slice A0_1 l0_1.length c0_1] 24 (0, 0)) (by (with_reducible repeat (first | refine blk_drewN ?_ _ | refine blk_drew ?_ | refine blk_alloc ?_ _)); exact BK153.out) hg (Kd.R_ne HO_8.out BK153.out (by decide))); have n2_ := Aside0.mk (blk_grown (g := gb154) (o := .cells #[.slice none 0 0, .slice none 0 0] 24 (0, 0)) (by (with_reducible repeat (first | refine blk_drewN ?_ _ | refine blk_drew ?_ | refine blk_alloc ?_ _)); exact BK154.out) hg (Kd.R_ne HO_8.out BK154.out (by decide))); have n3_ := Aside0.mk (blk_grown (g := gb155) (o := .cells #[.slice none 0 0, .slice none 0 0] 24 (0, 0)) (by (with_reducible repeat (first | refine blk_drewN ?_ _ | refine blk_drew ?_ | refine blk_alloc ?_ _)); exact BK155.out) hg (Kd.R_ne HO_8.out BK155.out (by decide))); have n4_ := Aside0.mk (blk_grown (g := gb162) (o := .cells #[.int .i64 ((rd_T90 t157 a1).f0), .int .i64 ((rd_T90 t157 a1).f1)] 90 (0, 0)) (by (with_reducible repeat (first | refine blk_drewN ?_ _ | refine blk_drew ?_ | refine blk_alloc ?_ _)); exact BK162.out) hg (Kd.R_away HO_8.out (fun _ hk => hk))); have n5_ := Aside0.mk ((by rw [hw]; exact below_set (below_set (HB.out) GB29.out) GB29.out : Below w.heap.size w w43)); clear HO_8; clear BK153; clear BK154; clear BK155; clear BK162; clear HB; have HO_8 := n0_; have BK153 := n1_; have BK154 := n2_; have BK155 := n3_; have BK162 := n4_; have HB := n5_; clear n0_ n1_ n2_ n3_ n4_ n5_; clear hg hw hp_) | ((with_reducible refine gate_callee (f := 37) rfl ?_); refine goesL_ (some 55) rfl rfl Try.func37 (by kernel_rfl) rfl #[.slice (some ⟨go29, 0, none⟩) y163.length co34] rfl (by (try simp only [List.map_toArray, List.map_cons, List.map_nil]); first | done | (rw [show y163.length = t157.length from (Kd.R_reads' HO_8.out).1.symm] <;> rfl) | rfl | (simp only [List.length_drop, List.length_take]; rfl)) ?_; (with_reducible refine (split_region.calls kj5 _ _ y163 t164 t167 _ ?side1 ?side2 A30.out).mono ?_); (case side1 => repeat (first | exact (Kd.R_reads' HO_8.out).2.2 | (with_reducible refine Kd.C_alloc ?_ _) | (with_reducible refine Kd.C_drewN ?_ _) | (with_reducible refine Kd.C_drew ?_))); (case side2 => rw [show y163.length = t157.length from (Kd.R_reads' HO_8.out).1.symm]; exact (Kd.R_reads' HO_8.out).2.1); rintro e w44 ⟨v165, v168, rfl, ho0, ho1, hb⟩; refine ⟨_, rfl, ?_⟩; have n0_ := Aside0.mk (Kd.R_below (by (with_reducible repeat (first | apply Kd.R_alloc | apply Kd.R_drewN | apply Kd.R_drew)); exact HO_8.out) hb); have n1_ := Aside0.mk (Kd.R_lower ho0 (below_size (by repeat (first | (with_reducible first | exact HB.out | apply below_alloc | apply pw_below_drewN | apply below_drew1 | refine below_set ?_ GE153.out | refine below_set ?_ GE154.out | refine below_set ?_ GE155.out | refine below_set ?_ GE162.out) | exact HB.out)))); have n2_ := Aside0.mk (Kd.R_lower ho1 (below_size (by repeat (first | (with_reducible first | exact HB.out | apply below_alloc | apply pw_below_drewN | apply below_drew1 | refine below_set ?_ GE153.out | refine below_set ?_ GE154.out | refine below_set ?_ GE155.out | refine below_set ?_ GE162.out) | exact HB.out)))); have n3_ := Aside0.mk (blk_below (g := gb153) (o := .cells #[.slice A0_0 l0_0.length c0_0, .slice A0_1 l0_1.length c0_1] 24 (0, 0)) (by (with_reducible repeat (first | refine blk_drewN ?_ _ | refine blk_drew ?_ | refine blk_alloc ?_ _)); exact BK153.out) hb); have n4_ := Aside0.mk (blk_below (g := gb154) (o := .cells #[.slice none 0 0, .slice none 0 0] 24 (0, 0)) (by (with_reducible repeat (first | refine blk_drewN ?_ _ | refine blk_drew ?_ | refine blk_alloc ?_ _)); exact BK154.out) hb); have n5_ := Aside0.mk (blk_below (g := gb155) (o := .cells #[.slice none 0 0, .slice none 0 0] 24 (0, 0)) (by (with_reducible repeat (first | refine blk_drewN ?_ _ | refine blk_drew ?_ | refine blk_alloc ?_ _)); exact BK155.out) hb); have n6_ := Aside0.mk (blk_below (g := gb162) (o := .cells #[.int .i64 ((rd_T90 t157 a1).f0), .int .i64 ((rd_T90 t157 a1).f1)] 90 (0, 0)) (by (with_reducible repeat (first | refine blk_drewN ?_ _ | refine blk_drew ?_ | refine blk_alloc ?_ _)); exact BK162.out) hb); have n7_ := Aside0.mk (below_step (by repeat (first | (with_reducible first | exact HB.out | apply below_alloc | apply pw_below_drewN | apply below_drew1 | refine below_set ?_ GE153.out | refine below_set ?_ GE154.out | refine below_set ?_ GE155.out | refine below_set ?_ GE162.out) | exact HB.out)) hb); clear HO_8; clear BK153; clear BK154; clear BK155; clear BK162; clear HB; have HO_8 := n0_; have HO166 := n1_; have HO169 := n2_; have BK153 := n3_; have BK154 := n4_; have BK155 := n5_; have BK162 := n6_; have HB := n7_; clear n0_ n1_ n2_ n3_ n4_ n5_ n6_ n7_; (try clear hb); (try clear hb2); (try clear hk); (try clear hi); (try clear ho0); (try clear ho1)) | ((with_reducible refine gate_dst (N := 10) rfl ?_); refine box_event ?hg (N := 10) ?hd (cs := #[.slice none 0 0, .slice none 0 0]) (t := 24) ?hr ?_; (case hd => rfl); (case hg => rfl); (case hr => first | (go_simp; done) | (go_simp; rfl)); intro gb170 hg w45 hbox hb; have n0_ := Aside0.mk (Kd.R_below (by (with_reducible repeat (first | apply Kd.R_alloc | apply Kd.R_drewN | apply Kd.R_drew)); exact HO_8.out) hb); have n1_ := Aside0.mk (Kd.R_below (by (with_reducible repeat (first | apply Kd.R_alloc | apply Kd.R_drewN | apply Kd.R_drew)); exact HO166.out) hb); have n2_ := Aside0.mk (Kd.R_below (by (with_reducible repeat (first | apply Kd.R_alloc | apply Kd.R_drewN | apply Kd.R_drew)); exact HO169.out) hb); have n3_ := Aside0.mk (blk_below (g := gb153) (o := .cells #[.slice A0_0 l0_0.length c0_0, .slice A0_1 l0_1.length c0_1] 24 (0, 0)) (by (with_reducible repeat (first | refine blk_drewN ?_ _ | refine blk_drew ?_ | refine blk_alloc ?_ _)); exact BK153.out) hb); have n4_ := Aside0.mk (blk_below (g := gb154) (o := .cells #[.slice none 0 0, .slice none 0 0] 24 (0, 0)) (by (with_reducible repeat (first | refine blk_drewN ?_ _ | refine blk_drew ?_ | refine blk_alloc ?_ _)); exact BK154.out) hb); have n5_ := Aside0.mk (blk_below (g := gb155) (o := .cells #[.slice none 0 0, .slice none 0 0] 24 (0, 0)) (by (with_reducible repeat (first | refine blk_drewN ?_ _ | refine blk_drew ?_ | refine blk_alloc ?_ _)); exact BK155.out) hb); have n6_ := Aside0.mk (blk_below (g := gb162) (o := .cells #[.int .i64 ((rd_T90 t157 a1).f0), .int .i64 ((rd_T90 t157 a1).f1)] 90 (0, 0)) (by (with_reducible repeat (first | refine blk_drewN ?_ _ | refine blk_drew ?_ | refine blk_alloc ?_ _)); exact BK162.out) hb); have n7_ := Aside0.mk (below_step (by repeat (first | (with_reducible first | exact HB.out | apply below_alloc | apply pw_below_drewN | apply below_drew1 | refine below_set ?_ GE153.out | refine below_set ?_ GE154.out | refine below_set ?_ GE155.out | refine below_set ?_ GE162.out) | exact HB.out)) hb); have n8_ := Aside0.mk (hbox); have n9_ := Aside0.mk ((by rw [hg]; exact (below_size (by repeat (first | (with_reducible first | exact HB.out | apply below_alloc | apply pw_below_drewN | apply below_drew1 | refine below_set ?_ GE153.out | refine below_set ?_ GE154.out | refine below_set ?_ GE155.out | refine below_set ?_ GE162.out) | exact HB.out))) : w.heap.size ≤ gb170)); have n10_ := Aside0.mk ((by rw [hg]; exact (below_size (by repeat (first | (with_reducible first | exact HB.out | apply below_alloc | apply pw_below_drewN | apply below_drew1 | refine below_set ?_ GE153.out | refine below_set ?_ GE154.out | refine below_set ?_ GE155.out | refine below_set ?_ GE162.out) | exact HB.out))) : w.heap.size ≤ gb170)); have n11_ := Aside0.mk ((by rw [hg]; exact Nat.ne_of_lt (blk_lt (g := gb153) (o := .cells #[.slice A0_0 l0_0.length c0_0, .slice A0_1 l0_1.length c0_1] 24 (0, 0)) (by (with_reducible repeat (first | refine blk_drewN ?_ _ | refine blk_drew ?_ | refine blk_alloc ?_ _)); exact BK153.out)) : gb153 ≠ gb170)); have n12_ := Aside0.mk ((by rw [hg]; exact Nat.ne_of_gt (blk_lt (g := gb153) (o := .cells #[.slice A0_0 l0_0.length c0_0, .slice A0_1 l0_1.length c0_1] 24 (0, 0)) (by (with_reducible repeat (first | refine blk_drewN ?_ _ | refine blk_drew ?_ | refine blk_alloc ?_ _)); exact BK153.out)) : gb170 ≠ gb153)); have n13_ := Aside0.mk ((by rw [hg]; exact Nat.ne_of_lt (blk_lt (g := gb154) (o := .cells #[.slice none 0 0, .slice none 0 0] 24 (0, 0)) (by (with_reducible repeat (first | refine blk_drewN ?_ _ | refine blk_drew ?_ | refine blk_alloc ?_ _)); exact BK154.out)) : gb154 ≠ gb170)); have n14_ := Aside0.mk ((by rw [hg]; exact Nat.ne_of_gt (blk_lt (g := gb154) (o := .cells #[.slice none 0 0, .slice none 0 0] 24 (0, 0)) (by (with_reducible repeat (first | refine blk_drewN ?_ _ | refine blk_drew ?_ | refine blk_alloc ?_ _)); exact BK154.out)) : gb170 ≠ gb154)); have n15_ := Aside0.mk ((by rw [hg]; exact Nat.ne_of_lt (blk_lt (g := gb155) (o := .cells #[.slice none 0 0, .slice none 0 0] 24 (0, 0)) (by (with_reducible repeat (first | refine blk_drewN ?_ _ | refine blk_drew ?_ | refine blk_alloc ?_ _)); exact BK155.out)) : gb155 ≠ gb170)); have n16_ := Aside0.mk ((by rw [hg]; exact Nat.ne_of_gt (blk_lt (g := gb155) (o := .cells #[.slice none 0 0, .slice none 0 0] 24 (0, 0)) (by (with_reducible repeat (first | refine blk_drewN ?_ _ | refine blk_drew ?_ | refine blk_alloc ?_ _)); exact BK155.out)) : gb170 ≠ gb155)); have n17_ := Aside0.mk ((by rw [hg]; exact Nat.ne_of_lt (blk_lt (g := gb162) (o := .cells #[.int .i64 ((rd_T90 t157 a1).f0), .int .i64 ((rd_T90 t157 a1).f1)] 90 (0, 0)) (by (with_reducible repeat (first | refine blk_drewN ?_ _ | refine blk_drew ?_ | refine blk_alloc ?_ _)); exact BK162.out)) : gb162 ≠ gb170)); have n18_ := Aside0.mk ((by rw [hg]; exact Nat.ne_of_gt (blk_lt (g := gb162) (o := .cells #[.int .i64 ((rd_T90 t157 a1).f0), .int .i64 ((rd_T90 t157 a1).f1)] 90 (0, 0)) (by (with_reducible repeat (first | refine blk_drewN ?_ _ | refine blk_drew ?_ | refine blk_alloc ?_ _)); exact BK162.out)) : gb170 ≠ gb162)); clear HO_8; clear HO166; clear HO169; clear BK153; clear BK154; clear BK155; clear BK162; clear HB; have HO_8 := n0_; have HO166 := n1_; have HO169 := n2_; have BK153 := n3_; have BK154 := n4_; have BK155 := n5_; have BK162 := n6_; have HB := n7_; have BK170 := n8_; have GW170 := n9_; have GE170 := n10_; have NB153_170 := n11_; have NB170_153 := n12_; have NB154_170 := n13_; have NB170_154 := n14_; have NB155_170 := n15_; have NB170_155 := n16_; have NB162_170 := n17_; have NB170_162 := n18_; clear n0_ n1_ n2_ n3_ n4_ n5_ n6_ n7_ n8_ n9_ n10_ n11_ n12_ n13_ n14_ n15_ n16_ n17_ n18_; clear hb hbox hg; obtain ⟨Ao46, co46, eo46⟩ := Kd.R_slice HO166.out; subst eo46; have hnb47 := NB170_153.out; have hnc47 := NB153_170.out; have hnb48 := NB170_154.out; have hnc48 := NB154_170.out; have hnb49 := NB170_155.out; have hnc49 := NB155_170.out; have hnb50 := NB170_162.out; have hnc50 := NB162_170.out; have hcz51_0 : w45.cell? ⟨gb170, 0, none⟩ = some (.slice none 0 0) := (blk_cell BK170.out 0).trans rfl; have hcz51_1 : w45.cell? ⟨gb170, 1, none⟩ = some (.slice none 0 0) := (blk_cell BK170.out 1).trans rfl; have hfz51_0 := blk_frozen BK170.out 0; have hfz51_1 := blk_frozen BK170.out 1; obtain ⟨Ao52, co52, eo52⟩ := Kd.R_slice HO169.out; subst eo52) | ((with_reducible refine gate_store (t := 24) (p := 10) rfl ?_); refine store_event (t := 24) (p := 10) (v := ?vo_w53) (w1 := ((w45.setCell ⟨gb170, 0, none⟩ (.slice Ao46 t164.length co46)).setCell ⟨gb170, 1, none⟩ (.slice Ao52 t167.length co52))) ?hg ?ho ?hn ?hr ?_; (case ho => rfl); (case hg => rfl); (case hn => rfl); (case hr => first | (go_simp; done) | (go_simp; rfl)); intro w53 hw; have n0_ : Aside0 (Kd.R k90 90 w53 w.heap.size (fun k_ => k_ ≠ gb162) (.slice (some ⟨go29, 0, none⟩) t157.length co34) y163) := ⟨(by rw [hw]; exact (by (with_reducible repeat (first | apply Kd.R_alloc | apply Kd.R_drewN | apply Kd.R_drew)); exact Kd.R_mono (Kd.R_far (p := ⟨gb170, 1, none⟩) (Kd.R_far (p := ⟨gb170, 0, none⟩) (Kd.R_types HO_8.out BK170.out (by decide)) (fun _ hk => hk.2) (.slice Ao46 t164.length co46)) (fun _ hk => hk.2) (.slice Ao52 t167.length co52)) (fun _ hk => hk.1)))⟩; have n1_ : Aside0 (Kd.R (Kd.int .i64) 3 w53 w.heap.size (fun k_ => some k_ ≠ (.slice Ao52 t167.length co52 : Value).ownBlock) (.slice Ao46 t164.length co46) t164) := ⟨(by rw [hw]; exact (by (with_reducible repeat (first | apply Kd.R_alloc | apply Kd.R_drewN | apply Kd.R_drew)); exact Kd.R_mono (Kd.R_far (p := ⟨gb170, 1, none⟩) (Kd.R_far (p := ⟨gb170, 0, none⟩) (Kd.R_types HO166.out BK170.out (by decide)) (fun _ hk => hk.2) (.slice Ao46 t164.length co46)) (fun _ hk => hk.2) (.slice Ao52 t167.length co52)) (fun _ hk => hk.1)))⟩; have n2_ : Aside0 (Kd.R (Kd.int .i64) 3 w53 w.heap.size (fun k_ => some k_ ≠ (.slice Ao46 t164.length co46 : Value).ownBlock) (.slice Ao52 t167.length co52) t167) := ⟨(by rw [hw]; exact (by (with_reducible repeat (first | apply Kd.R_alloc | apply Kd.R_drewN | apply Kd.R_drew)); exact Kd.R_mono (Kd.R_far (p := ⟨gb170, 1, none⟩) (Kd.R_far (p := ⟨gb170, 0, none⟩) (Kd.R_types HO169.out BK170.out (by decide)) (fun _ hk => hk.2) (.slice Ao46 t164.length co46)) (fun _ hk => hk.2) (.slice Ao52 t167.length co52)) (fun _ hk => hk.1)))⟩; have n3_ : Aside0 (w53.heap[gb153]? = some (.cells #[.slice A0_0 l0_0.length c0_0, .slice A0_1 l0_1.length c0_1] 24 (0, 0))) := ⟨(by rw [hw]; exact (by (with_reducible repeat (first | refine blk_drewN ?_ _ | refine blk_drew ?_ | refine blk_alloc ?_ _)); refine blk_far ?_ NB153_170.out _; (with_reducible repeat (first | refine blk_drewN ?_ _ | refine blk_drew ?_ | refine blk_alloc ?_ _)); refine blk_far ?_ NB153_170.out _; (with_reducible repeat (first | refine blk_drewN ?_ _ | refine blk_drew ?_ | refine blk_alloc ?_ _)); exact BK153.out))⟩; have n4_ : Aside0 (w53.heap[gb154]? = some (.cells #[.slice none 0 0, .slice none 0 0] 24 (0, 0))) := ⟨(by rw [hw]; exact (by (with_reducible repeat (first | refine blk_drewN ?_ _ | refine blk_drew ?_ | refine blk_alloc ?_ _)); refine blk_far ?_ NB154_170.out _; (with_reducible repeat (first | refine blk_drewN ?_ _ | refine blk_drew ?_ | refine blk_alloc ?_ _)); refine blk_far ?_ NB154_170.out _; (with_reducible repeat (first | refine blk_drewN ?_ _ | refine blk_drew ?_ | refine blk_alloc ?_ _)); exact BK154.out))⟩; have n5_ : Aside0 (w53.heap[gb155]? = some (.cells #[.slice none 0 0, .slice none 0 0] 24 (0, 0))) := ⟨(by rw [hw]; exact (by (with_reducible repeat (first | refine blk_drewN ?_ _ | refine blk_drew ?_ | refine blk_alloc ?_ _)); refine blk_far ?_ NB155_170.out _; (with_reducible repeat (first | refine blk_drewN ?_ _ | refine blk_drew ?_ | refine blk_alloc ?_ _)); refine blk_far ?_ NB155_170.out _; (with_reducible repeat (first | refine blk_drewN ?_ _ | refine blk_drew ?_ | refine blk_alloc ?_ _)); exact BK155.out))⟩; have n6_ : Aside0 (w53.heap[gb162]? = some (.cells #[.int .i64 ((rd_T90 t157 a1).f0), .int .i64 ((rd_T90 t157 a1).f1)] 90 (0, 0))) := ⟨(by rw [hw]; exact (by (with_reducible repeat (first | refine blk_drewN ?_ _ | refine blk_drew ?_ | refine blk_alloc ?_ _)); refine blk_far ?_ NB162_170.out _; (with_reducible repeat (first | refine blk_drewN ?_ _ | refine blk_drew ?_ | refine blk_alloc ?_ _)); refine blk_far ?_ NB162_170.out _; (with_reducible repeat (first | refine blk_drewN ?_ _ | refine blk_drew ?_ | refine blk_alloc ?_ _)); exact BK162.out))⟩; have n7_ : Aside0 (w53.heap[gb170]? = some (.cells #[.slice Ao46 t164.length co46, .slice Ao52 t167.length co52] 24 (0, 0))) := ⟨(by rw [hw]; exact (by (with_reducible repeat (first | refine blk_drewN ?_ _ | refine blk_drew ?_ | refine blk_alloc ?_ _)); refine blk_put (cs := #[.slice Ao46 t164.length co46, .slice none 0 0]) ?_ 1 _ rfl; (with_reducible repeat (first | refine blk_drewN ?_ _ | refine blk_drew ?_ | refine blk_alloc ?_ _)); refine blk_put (cs := #[.slice none 0 0, .slice none 0 0]) ?_ 0 _ rfl; (with_reducible repeat (first | refine blk_drewN ?_ _ | refine blk_drew ?_ | refine blk_alloc ?_ _)); exact BK170.out))⟩; have n8_ : Aside0 (Below w.heap.size w w53) := ⟨(by rw [hw]; exact (by repeat (first | (with_reducible first | exact HB.out | apply below_alloc | apply pw_below_drewN | apply below_drew1 | refine below_set ?_ GE153.out | refine below_set ?_ GE154.out | refine below_set ?_ GE155.out | refine below_set ?_ GE162.out | refine below_set ?_ GE170.out) | exact HB.out)))⟩; clear hw; clear HO_8; clear HO166; clear HO169; clear BK153; clear BK154; clear BK155; clear BK162; clear BK170; clear HB; have HO_8 := n0_; have HO166 := n1_; have HO169 := n2_; have BK153 := n3_; have BK154 := n4_; have BK155 := n5_; have BK162 := n6_; have BK170 := n7_; have HB := n8_; clear n0_ n1_ n2_ n3_ n4_ n5_ n6_ n7_ n8_; have p171 : 0 ≤ (a1 : Int) := of_decide_eq_true (by first | (with_reducible assumption) | assumption); have q171 : a1 < (y163.length : Int) := (by have h_ : (a1 : Int) < ((t157.length : Int) : Int) := of_decide_eq_true (by first | (with_reducible assumption) | assumption); first | (have e_ := (Kd.R_reads' HO_8.out).1; omega) | simpa only [Ny163.out, List.length_set] using h_); have ql171 : ((a1 : Int) < ((t157.length : Int) : Int)) = True := eq_true (of_decide_eq_true (by first | (with_reducible assumption) | assumption)); obtain ⟨ad171, e171, hx171_0, hx171_1⟩ := at_T90 (Kd.R_reads' HO_8.out).2.2 a1 p171 q171; obtain rfl : (⟨go29, 0, none⟩ : Addr) = ad171 := (by injection e171); (first | simp only [add_plain] at hx171_0 | simp only [add_at] at hx171_0 | simp only [Addr.add, Nat.zero_add] at hx171_0 | skip); (first | simp only [add_plain] at hx171_1 | simp only [add_at] at hx171_1 | simp only [Addr.add, Nat.zero_add] at hx171_1 | skip); replace p171 := eq_true p171; replace q171 := eq_true q171; have p31 : 0 ≤ (a1 : Int) := of_decide_eq_true (by first | (with_reducible assumption) | assumption); have q31 : (a1 : Int) < ((t157.length : Int) : Int) := of_decide_eq_true (by first | (with_reducible assumption) | assumption); obtain ⟨ce31, hcl31, hM31, hcc31, hfr31⟩ := Kd.R_elem HO_8.out z90 (a1 : Int) p31 q31; obtain rfl := k90_openM hM31; have hx31_0 : w53.cell? ⟨go29, (a1 : Int).toNat * 2, none⟩ = some (.int .i64 ((rd_T90 y163 a1).f0)) := hcc31 0 _ rfl; have hx31_1 : w53.cell? ⟨go29, (a1 : Int).toNat * 2 + 1, none⟩ = some (.int .i64 ((rd_T90 y163 a1).f1)) := hcc31 1 _ rfl; have hf31_0 : w53.frozen? ⟨go29, (a1 : Int).toNat * 2, none⟩ = false := hfr31 0; have hf31_1 : w53.frozen? ⟨go29, (a1 : Int).toNat * 2 + 1, none⟩ = false := hfr31 1; clear hcl31 hcc31 hfr31 hM31; replace p31 := eq_true p31; replace q31 := eq_true q31; have HX54 := Aside0.mk (show Kd.R k90 90 w53 w.heap.size (fun k_ => k_ ≠ gb162) (.slice (some ⟨go29, 0, none⟩) t157.length co34) y163 from (by (with_reducible repeat (first | apply Kd.R_alloc | apply Kd.R_drewN | apply Kd.R_drew)); exact HO_8.out)); obtain ⟨ce54, hcl54, hM54, hcc54, hfr54⟩ := Kd.R_elem HX54.out z90 (a1 : Int) (of_decide_eq_true (by first | (with_reducible assumption) | assumption)) (by have h_ : (a1 : Int) < ((t157.length : Int) : Int) := of_decide_eq_true (by first | (with_reducible assumption) | assumption); first | exact h_ | (have e_ := (Kd.R_reads' HO_8.out).1; omega) | simpa using h_); obtain rfl := k90_openM hM54; have HP54 := Kd.R_seg HX54.out (a1 : Int) (of_decide_eq_true (by first | (with_reducible assumption) | assumption)) (by have h_ : (a1 : Int) < ((t157.length : Int) : Int) := of_decide_eq_true (by first | (with_reducible assumption) | assumption); first | exact h_ | (have e_ := (Kd.R_reads' HO_8.out).1; omega) | simpa using h_) (seg := [.int .i64 (wrap64 (((rd_T90 y163 a1).f1) + 1))]) (j := 1) hcl54 hcc54 (show 2 ≤ 2 from by decide) (x' := (⟨(rd_T90 y163 a1).f0, wrap64 (((rd_T90 y163 a1).f1) + 1)⟩ : S90)) (k90_mkM _ _ _ (⟨(rd_T90 y163 a1).f0, wrap64 (((rd_T90 y163 a1).f1) + 1)⟩ : S90) ) (fun _ hk => hk); have hx54_1 := hcc54 1 _ rfl; (try simp only [show (k90).sz = 2 from rfl, Nat.mul_one, Nat.add_zero] at hx54_1); have hf54_1 := hfr54 1; (try simp only [show (k90).sz = 2 from rfl, Nat.mul_one, Nat.add_zero] at hf54_1); clear hcl54 hcc54 hfr54 hM54) | ((with_reducible refine gate_store (t := 3) (p := 63) rfl ?_); refine store_event (t := 3) (p := 63) (v := ?vo_w55) (w1 := (w53.setCell ⟨go29, (a1 : Int).toNat * 2 + 1, none⟩ (.int .i64 (wrap64 (((rd_T90 y163 a1).f1) + 1))))) ?hg ?ho ?hn ?hr ?_; (case ho => rfl); (case hg => rfl); (case hn => rfl); (case hr => first | (go_simp; done) | (go_simp; rfl)); intro w55 hw; have hg : w53.grownBy w55 (some go29) := (by rw [hw]; exact HP54.2); have hp_ : Kd.R k90 90 w55 w.heap.size (fun k_ => k_ ≠ gb162) (.slice (some ⟨go29, 0, none⟩) t157.length co34) y172 := (by rw [hw, Ny172.out]; exact HP54.1); clear HP54; have n0_ := Aside0.mk (hp_); have n1_ := Aside0.mk (blk_grown (g := gb153) (o := .cells #[.slice A0_0 l0_0.length c0_0, .slice A0_1 l0_1.length c0_1] 24 (0, 0)) (by (with_reducible repeat (first | refine blk_drewN ?_ _ | refine blk_drew ?_ | refine blk_alloc ?_ _)); exact BK153.out) hg (Kd.R_ne HO_8.out BK153.out (by decide))); have n2_ := Aside0.mk (blk_grown (g := gb154) (o := .cells #[.slice none 0 0, .slice none 0 0] 24 (0, 0)) (by (with_reducible repeat (first | refine blk_drewN ?_ _ | refine blk_drew ?_ | refine blk_alloc ?_ _)); exact BK154.out) hg (Kd.R_ne HO_8.out BK154.out (by decide))); have n3_ := Aside0.mk (blk_grown (g := gb155) (o := .cells #[.slice none 0 0, .slice none 0 0] 24 (0, 0)) (by (with_reducible repeat (first | refine blk_drewN ?_ _ | refine blk_drew ?_ | refine blk_alloc ?_ _)); exact BK155.out) hg (Kd.R_ne HO_8.out BK155.out (by decide))); have n4_ := Aside0.mk (blk_grown (g := gb162) (o := .cells #[.int .i64 ((rd_T90 t157 a1).f0), .int .i64 ((rd_T90 t157 a1).f1)] 90 (0, 0)) (by (with_reducible repeat (first | refine blk_drewN ?_ _ | refine blk_drew ?_ | refine blk_alloc ?_ _)); exact BK162.out) hg (Kd.R_away HO_8.out (fun _ hk => hk))); have n5_ := Aside0.mk (Kd.R_over' (v := (.slice (some ⟨go29, 0, none⟩) t157.length co34)) (by (with_reducible repeat (first | apply Kd.R_alloc | apply Kd.R_drewN | apply Kd.R_drew)); exact HO166.out) (Kd.R_typed HO_8.out) (by decide) hg); have n6_ := Aside0.mk (Kd.R_over' (v := (.slice (some ⟨go29, 0, none⟩) t157.length co34)) (by (with_reducible repeat (first | apply Kd.R_alloc | apply Kd.R_drewN | apply Kd.R_drew)); exact HO169.out) (Kd.R_typed HO_8.out) (by decide) hg); have n7_ := Aside0.mk (blk_grown (g := gb170) (o := .cells #[.slice Ao46 t164.length co46, .slice Ao52 t167.length co52] 24 (0, 0)) (by (with_reducible repeat (first | refine blk_drewN ?_ _ | refine blk_drew ?_ | refine blk_alloc ?_ _)); exact BK170.out) hg (Kd.R_ne HO_8.out BK170.out (by decide))); have n8_ := Aside0.mk ((by rw [hw]; exact below_set (HB.out) GB29.out : Below w.heap.size w w55)); clear HO_8; clear BK153; clear BK154; clear BK155; clear BK162; clear HO166; clear HO169; clear BK170; clear HB; have HO_8 := n0_; have BK153 := n1_; have BK154 := n2_; have BK155 := n3_; have BK162 := n4_; have HO166 := n5_; have HO169 := n6_; have BK170 := n7_; have HB := n8_; clear n0_ n1_ n2_ n3_ n4_ n5_ n6_ n7_ n8_; clear hg hw hp_) | ((with_reducible refine gate_callee (f := 37) rfl ?_); refine goesL_ (some 65) rfl rfl Try.func37 (by kernel_rfl) rfl #[.slice (some ⟨go29, 0, none⟩) y172.length co34] rfl (by (try simp only [List.map_toArray, List.map_cons, List.map_nil]); first | done | (rw [show y172.length = t157.length from (Kd.R_reads' HO_8.out).1.symm] <;> rfl) | rfl | (simp only [List.length_drop, List.length_take]; rfl)) ?_; (with_reducible refine (split_region.calls kj5 _ _ y172 t173 t176 _ ?side1 ?side2 A32.out).mono ?_); (case side1 => repeat (first | exact (Kd.R_reads' HO_8.out).2.2 | (with_reducible refine Kd.C_alloc ?_ _) | (with_reducible refine Kd.C_drewN ?_ _) | (with_reducible refine Kd.C_drew ?_))); (case side2 => rw [show y172.length = t157.length from (Kd.R_reads' HO_8.out).1.symm]; exact (Kd.R_reads' HO_8.out).2.1); rintro e w56 ⟨v174, v177, rfl, ho0, ho1, hb⟩; refine ⟨_, rfl, ?_⟩; have n0_ := Aside0.mk (Kd.R_below (by (with_reducible repeat (first | apply Kd.R_alloc | apply Kd.R_drewN | apply Kd.R_drew)); exact HO_8.out) hb); have n1_ := Aside0.mk (Kd.R_mono (Kd.R_told (Kd.R_told (Kd.R_old (by (with_reducible repeat (first | apply Kd.R_alloc | apply Kd.R_drewN | apply Kd.R_drew)); exact HO166.out) hb) (Kd.R_base ho0)) (Kd.R_base ho1)) (fun _ h_ => h_.1)); have n2_ := Aside0.mk (Kd.R_mono (Kd.R_told (Kd.R_told (Kd.R_old (by (with_reducible repeat (first | apply Kd.R_alloc | apply Kd.R_drewN | apply Kd.R_drew)); exact HO169.out) hb) (Kd.R_base ho0)) (Kd.R_base ho1)) (fun _ h_ => h_.1)); have n3_ := Aside0.mk (Kd.R_lower (Kd.R_new' (Kd.R_new' ho0 (Kd.R_lt (by (with_reducible repeat (first | apply Kd.R_alloc | apply Kd.R_drewN | apply Kd.R_drew)); exact HO166.out))) (Kd.R_lt (by (with_reducible repeat (first | apply Kd.R_alloc | apply Kd.R_drewN | apply Kd.R_drew)); exact HO169.out))) (below_size (by repeat (first | (with_reducible first | exact HB.out | apply below_alloc | apply pw_below_drewN | apply below_drew1 | refine below_set ?_ GE153.out | refine below_set ?_ GE154.out | refine below_set ?_ GE155.out | refine below_set ?_ GE162.out | refine below_set ?_ GE170.out) | exact HB.out)))); have n4_ := Aside0.mk (Kd.R_lower (Kd.R_new' (Kd.R_new' ho1 (Kd.R_lt (by (with_reducible repeat (first | apply Kd.R_alloc | apply Kd.R_drewN | apply Kd.R_drew)); exact HO166.out))) (Kd.R_lt (by (with_reducible repeat (first | apply Kd.R_alloc | apply Kd.R_drewN | apply Kd.R_drew)); exact HO169.out))) (below_size (by repeat (first | (with_reducible first | exact HB.out | apply below_alloc | apply pw_below_drewN | apply below_drew1 | refine below_set ?_ GE153.out | refine below_set ?_ GE154.out | refine below_set ?_ GE155.out | refine below_set ?_ GE162.out | refine below_set ?_ GE170.out) | exact HB.out)))); have n5_ := Aside0.mk (blk_below (g := gb153) (o := .cells #[.slice A0_0 l0_0.length c0_0, .slice A0_1 l0_1.length c0_1] 24 (0, 0)) (by (with_reducible repeat (first | refine blk_drewN ?_ _ | refine blk_drew ?_ | refine blk_alloc ?_ _)); exact BK153.out) hb); have n6_ := Aside0.mk (blk_below (g := gb154) (o := .cells #[.slice none 0 0, .slice none 0 0] 24 (0, 0)) (by (with_reducible repeat (first | refine blk_drewN ?_ _ | refine blk_drew ?_ | refine blk_alloc ?_ _)); exact BK154.out) hb); have n7_ := Aside0.mk (blk_below (g := gb155) (o := .cells #[.slice none 0 0, .slice none 0 0] 24 (0, 0)) (by (with_reducible repeat (first | refine blk_drewN ?_ _ | refine blk_drew ?_ | refine blk_alloc ?_ _)); exact BK155.out) hb); have n8_ := Aside0.mk (blk_below (g := gb162) (o := .cells #[.int .i64 ((rd_T90 t157 a1).f0), .int .i64 ((rd_T90 t157 a1).f1)] 90 (0, 0)) (by (with_reducible repeat (first | refine blk_drewN ?_ _ | refine blk_drew ?_ | refine blk_alloc ?_ _)); exact BK162.out) hb); have n9_ := Aside0.mk (blk_below (g := gb170) (o := .cells #[.slice Ao46 t164.length co46, .slice Ao52 t167.length co52] 24 (0, 0)) (by (with_reducible repeat (first | refine blk_drewN ?_ _ | refine blk_drew ?_ | refine blk_alloc ?_ _)); exact BK170.out) hb); have n10_ := Aside0.mk (below_step (by repeat (first | (with_reducible first | exact HB.out | apply below_alloc | apply pw_below_drewN | apply below_drew1 | refine below_set ?_ GE153.out | refine below_set ?_ GE154.out | refine below_set ?_ GE155.out | refine below_set ?_ GE162.out | refine below_set ?_ GE170.out) | exact HB.out)) hb); clear HO_8; clear HO166; clear HO169; clear BK153; clear BK154; clear BK155; clear BK162; clear BK170; clear HB; have HO_8 := n0_; have HO166 := n1_; have HO169 := n2_; have HO175 := n3_; have HO178 := n4_; have BK153 := n5_; have BK154 := n6_; have BK155 := n7_; have BK162 := n8_; have BK170 := n9_; have HB := n10_; clear n0_ n1_ n2_ n3_ n4_ n5_ n6_ n7_ n8_ n9_ n10_; (try clear hb); (try clear hb2); (try clear hk); (try clear hi); (try clear ho0); (try clear ho1)) | ((with_reducible refine gate_dst (N := 11) rfl ?_); refine box_event ?hg (N := 11) ?hd (cs := #[.slice none 0 0, .slice none 0 0]) (t := 24) ?hr ?_; (case hd => rfl); (case hg => rfl); (case hr => first | (go_simp; done) | (go_simp; rfl)); intro gb179 hg w57 hbox hb; have n0_ := Aside0.mk (Kd.R_below (by (with_reducible repeat (first | apply Kd.R_alloc | apply Kd.R_drewN | apply Kd.R_drew)); exact HO_8.out) hb); have n1_ := Aside0.mk (Kd.R_below (by (with_reducible repeat (first | apply Kd.R_alloc | apply Kd.R_drewN | apply Kd.R_drew)); exact HO166.out) hb); have n2_ := Aside0.mk (Kd.R_below (by (with_reducible repeat (first | apply Kd.R_alloc | apply Kd.R_drewN | apply Kd.R_drew)); exact HO169.out) hb); have n3_ := Aside0.mk (Kd.R_below (by (with_reducible repeat (first | apply Kd.R_alloc | apply Kd.R_drewN | apply Kd.R_drew)); exact HO175.out) hb); have n4_ := Aside0.mk (Kd.R_below (by (with_reducible repeat (first | apply Kd.R_alloc | apply Kd.R_drewN | apply Kd.R_drew)); exact HO178.out) hb); have n5_ := Aside0.mk (blk_below (g := gb153) (o := .cells #[.slice A0_0 l0_0.length c0_0, .slice A0_1 l0_1.length c0_1] 24 (0, 0)) (by (with_reducible repeat (first | refine blk_drewN ?_ _ | refine blk_drew ?_ | refine blk_alloc ?_ _)); exact BK153.out) hb); have n6_ := Aside0.mk (blk_below (g := gb154) (o := .cells #[.slice none 0 0, .slice none 0 0] 24 (0, 0)) (by (with_reducible repeat (first | refine blk_drewN ?_ _ | refine blk_drew ?_ | refine blk_alloc ?_ _)); exact BK154.out) hb); have n7_ := Aside0.mk (blk_below (g := gb155) (o := .cells #[.slice none 0 0, .slice none 0 0] 24 (0, 0)) (by (with_reducible repeat (first | refine blk_drewN ?_ _ | refine blk_drew ?_ | refine blk_alloc ?_ _)); exact BK155.out) hb); have n8_ := Aside0.mk (blk_below (g := gb162) (o := .cells #[.int .i64 ((rd_T90 t157 a1).f0), .int .i64 ((rd_T90 t157 a1).f1)] 90 (0, 0)) (by (with_reducible repeat (first | refine blk_drewN ?_ _ | refine blk_drew ?_ | refine blk_alloc ?_ _)); exact BK162.out) hb); have n9_ := Aside0.mk (blk_below (g := gb170) (o := .cells #[.slice Ao46 t164.length co46, .slice Ao52 t167.length co52] 24 (0, 0)) (by (with_reducible repeat (first | refine blk_drewN ?_ _ | refine blk_drew ?_ | refine blk_alloc ?_ _)); exact BK170.out) hb); have n10_ := Aside0.mk (below_step (by repeat (first | (with_reducible first | exact HB.out | apply below_alloc | apply pw_below_drewN | apply below_drew1 | refine below_set ?_ GE153.out | refine below_set ?_ GE154.out | refine below_set ?_ GE155.out | refine below_set ?_ GE162.out | refine below_set ?_ GE170.out) | exact HB.out)) hb); have n11_ := Aside0.mk (hbox); have n12_ := Aside0.mk ((by rw [hg]; exact (below_size (by repeat (first | (with_reducible first | exact HB.out | apply below_alloc | apply pw_below_drewN | apply below_drew1 | refine below_set ?_ GE153.out | refine below_set ?_ GE154.out | refine below_set ?_ GE155.out | refine below_set ?_ GE162.out | refine below_set ?_ GE170.out) | exact HB.out))) : w.heap.size ≤ gb179)); have n13_ := Aside0.mk ((by rw [hg]; exact (below_size (by repeat (first | (with_reducible first | exact HB.out | apply below_alloc | apply pw_below_drewN | apply below_drew1 | refine below_set ?_ GE153.out | refine below_set ?_ GE154.out | refine below_set ?_ GE155.out | refine below_set ?_ GE162.out | refine below_set ?_ GE170.out) | exact HB.out))) : w.heap.size ≤ gb179)); have n14_ := Aside0.mk ((by rw [hg]; exact Nat.ne_of_lt (blk_lt (g := gb153) (o := .cells #[.slice A0_0 l0_0.length c0_0, .slice A0_1 l0_1.length c0_1] 24 (0, 0)) (by (with_reducible repeat (first | refine blk_drewN ?_ _ | refine blk_drew ?_ | refine blk_alloc ?_ _)); exact BK153.out)) : gb153 ≠ gb179)); have n15_ := Aside0.mk ((by rw [hg]; exact Nat.ne_of_gt (blk_lt (g := gb153) (o := .cells #[.slice A0_0 l0_0.length c0_0, .slice A0_1 l0_1.length c0_1] 24 (0, 0)) (by (with_reducible repeat (first | refine blk_drewN ?_ _ | refine blk_drew ?_ | refine blk_alloc ?_ _)); exact BK153.out)) : gb179 ≠ gb153)); have n16_ := Aside0.mk ((by rw [hg]; exact Nat.ne_of_lt (blk_lt (g := gb154) (o := .cells #[.slice none 0 0, .slice none 0 0] 24 (0, 0)) (by (with_reducible repeat (first | refine blk_drewN ?_ _ | refine blk_drew ?_ | refine blk_alloc ?_ _)); exact BK154.out)) : gb154 ≠ gb179)); have n17_ := Aside0.mk ((by rw [hg]; exact Nat.ne_of_gt (blk_lt (g := gb154) (o := .cells #[.slice none 0 0, .slice none 0 0] 24 (0, 0)) (by (with_reducible repeat (first | refine blk_drewN ?_ _ | refine blk_drew ?_ | refine blk_alloc ?_ _)); exact BK154.out)) : gb179 ≠ gb154)); have n18_ := Aside0.mk ((by rw [hg]; exact Nat.ne_of_lt (blk_lt (g := gb155) (o := .cells #[.slice none 0 0, .slice none 0 0] 24 (0, 0)) (by (with_reducible repeat (first | refine blk_drewN ?_ _ | refine blk_drew ?_ | refine blk_alloc ?_ _)); exact BK155.out)) : gb155 ≠ gb179)); have n19_ := Aside0.mk ((by rw [hg]; exact Nat.ne_of_gt (blk_lt (g := gb155) (o := .cells #[.slice none 0 0, .slice none 0 0] 24 (0, 0)) (by (with_reducible repeat (first | refine blk_drewN ?_ _ | refine blk_drew ?_ | refine blk_alloc ?_ _)); exact BK155.out)) : gb179 ≠ gb155)); have n20_ := Aside0.mk ((by rw [hg]; exact Nat.ne_of_lt (blk_lt (g := gb162) (o := .cells #[.int .i64 ((rd_T90 t157 a1).f0), .int .i64 ((rd_T90 t157 a1).f1)] 90 (0, 0)) (by (with_reducible repeat (first | refine blk_drewN ?_ _ | refine blk_drew ?_ | refine blk_alloc ?_ _)); exact BK162.out)) : gb162 ≠ gb179)); have n21_ := Aside0.mk ((by rw [hg]; exact Nat.ne_of_gt (blk_lt (g := gb162) (o := .cells #[.int .i64 ((rd_T90 t157 a1).f0), .int .i64 ((rd_T90 t157 a1).f1)] 90 (0, 0)) (by (with_reducible repeat (first | refine blk_drewN ?_ _ | refine blk_drew ?_ | refine blk_alloc ?_ _)); exact BK162.out)) : gb179 ≠ gb162)); have n22_ := Aside0.mk ((by rw [hg]; exact Nat.ne_of_lt (blk_lt (g := gb170) (o := .cells #[.slice Ao46 t164.length co46, .slice Ao52 t167.length co52] 24 (0, 0)) (by (with_reducible repeat (first | refine blk_drewN ?_ _ | refine blk_drew ?_ | refine blk_alloc ?_ _)); exact BK170.out)) : gb170 ≠ gb179)); have n23_ := Aside0.mk ((by rw [hg]; exact Nat.ne_of_gt (blk_lt (g := gb170) (o := .cells #[.slice Ao46 t164.length co46, .slice Ao52 t167.length co52] 24 (0, 0)) (by (with_reducible repeat (first | refine blk_drewN ?_ _ | refine blk_drew ?_ | refine blk_alloc ?_ _)); exact BK170.out)) : gb179 ≠ gb170)); clear HO_8; clear HO166; clear HO169; clear HO175; clear HO178; clear BK153; clear BK154; clear BK155; clear BK162; clear BK170; clear HB; have HO_8 := n0_; have HO166 := n1_; have HO169 := n2_; have HO175 := n3_; have HO178 := n4_; have BK153 := n5_; have BK154 := n6_; have BK155 := n7_; have BK162 := n8_; have BK170 := n9_; have HB := n10_; have BK179 := n11_; have GW179 := n12_; have GE179 := n13_; have NB153_179 := n14_; have NB179_153 := n15_; have NB154_179 := n16_; have NB179_154 := n17_; have NB155_179 := n18_; have NB179_155 := n19_; have NB162_179 := n20_; have NB179_162 := n21_; have NB170_179 := n22_; have NB179_170 := n23_; clear n0_ n1_ n2_ n3_ n4_ n5_ n6_ n7_ n8_ n9_ n10_ n11_ n12_ n13_ n14_ n15_ n16_ n17_ n18_ n19_ n20_ n21_ n22_ n23_; clear hb hbox hg; obtain ⟨Ao58, co58, eo58⟩ := Kd.R_slice HO175.out; subst eo58; have hnb59 := NB179_153.out; have hnc59 := NB153_179.out; have hnb60 := NB179_154.out; have hnc60 := NB154_179.out; have hnb61 := NB179_155.out; have hnc61 := NB155_179.out; have hnb62 := NB179_162.out; have hnc62 := NB162_179.out; have hnb63 := NB179_170.out; have hnc63 := NB170_179.out; have hcz64_0 : w57.cell? ⟨gb179, 0, none⟩ = some (.slice none 0 0) := (blk_cell BK179.out 0).trans rfl; have hcz64_1 : w57.cell? ⟨gb179, 1, none⟩ = some (.slice none 0 0) := (blk_cell BK179.out 1).trans rfl; have hfz64_0 := blk_frozen BK179.out 0; have hfz64_1 := blk_frozen BK179.out 1; obtain ⟨Ao65, co65, eo65⟩ := Kd.R_slice HO178.out; subst eo65))
                have n0_ : Aside0 (Kd.R k90 90 ((w57.setCell ⟨gb179, 0, none⟩ (.slice Ao58 t173.length co58)).setCell ⟨gb179, 1, none⟩ (.slice Ao65 t176.length co65)) w.heap.size (fun k_ => k_ ≠ gb162) (.slice (some ⟨go29, 0, none⟩) t157.length co34) y172) := ⟨by (with_reducible repeat (first | apply Kd.R_alloc | apply Kd.R_drewN | apply Kd.R_drew)); exact Kd.R_mono (Kd.R_far (p := ⟨gb179, 1, none⟩) (Kd.R_far (p := ⟨gb179, 0, none⟩) (Kd.R_types HO_8.out BK179.out (by decide)) (fun _ hk => hk.2) (.slice Ao58 t173.length co58)) (fun _ hk => hk.2) (.slice Ao65 t176.length co65)) (fun _ hk => hk.1)⟩
                have n1_ : Aside0 (Kd.R (Kd.int .i64) 3 ((w57.setCell ⟨gb179, 0, none⟩ (.slice Ao58 t173.length co58)).setCell ⟨gb179, 1, none⟩ (.slice Ao65 t176.length co65)) w.heap.size (fun k_ => some k_ ≠ (.slice Ao52 t167.length co52 : Value).ownBlock ∧ some k_ ≠ (.slice Ao58 t173.length co58 : Value).ownBlock ∧ some k_ ≠ (.slice Ao65 t176.length co65 : Value).ownBlock) (.slice Ao46 t164.length co46) t164) := ⟨by (with_reducible repeat (first | apply Kd.R_alloc | apply Kd.R_drewN | apply Kd.R_drew)); exact Kd.R_mono (Kd.R_far (p := ⟨gb179, 1, none⟩) (Kd.R_far (p := ⟨gb179, 0, none⟩) (Kd.R_types HO166.out BK179.out (by decide)) (fun _ hk => hk.2) (.slice Ao58 t173.length co58)) (fun _ hk => hk.2) (.slice Ao65 t176.length co65)) (fun _ hk => ⟨hk.1.1.1, ⟨hk.1.1.2, hk.1.2⟩⟩)⟩
                have n2_ : Aside0 (Kd.R (Kd.int .i64) 3 ((w57.setCell ⟨gb179, 0, none⟩ (.slice Ao58 t173.length co58)).setCell ⟨gb179, 1, none⟩ (.slice Ao65 t176.length co65)) w.heap.size (fun k_ => some k_ ≠ (.slice Ao46 t164.length co46 : Value).ownBlock ∧ some k_ ≠ (.slice Ao58 t173.length co58 : Value).ownBlock ∧ some k_ ≠ (.slice Ao65 t176.length co65 : Value).ownBlock) (.slice Ao52 t167.length co52) t167) := ⟨by (with_reducible repeat (first | apply Kd.R_alloc | apply Kd.R_drewN | apply Kd.R_drew)); exact Kd.R_mono (Kd.R_far (p := ⟨gb179, 1, none⟩) (Kd.R_far (p := ⟨gb179, 0, none⟩) (Kd.R_types HO169.out BK179.out (by decide)) (fun _ hk => hk.2) (.slice Ao58 t173.length co58)) (fun _ hk => hk.2) (.slice Ao65 t176.length co65)) (fun _ hk => ⟨hk.1.1.1, ⟨hk.1.1.2, hk.1.2⟩⟩)⟩
                have n3_ : Aside0 (Kd.R (Kd.int .i64) 3 ((w57.setCell ⟨gb179, 0, none⟩ (.slice Ao58 t173.length co58)).setCell ⟨gb179, 1, none⟩ (.slice Ao65 t176.length co65)) w.heap.size (fun k_ => some k_ ≠ (.slice Ao46 t164.length co46 : Value).ownBlock ∧ some k_ ≠ (.slice Ao52 t167.length co52 : Value).ownBlock ∧ some k_ ≠ (.slice Ao65 t176.length co65 : Value).ownBlock) (.slice Ao58 t173.length co58) t173) := ⟨by (with_reducible repeat (first | apply Kd.R_alloc | apply Kd.R_drewN | apply Kd.R_drew)); exact Kd.R_mono (Kd.R_far (p := ⟨gb179, 1, none⟩) (Kd.R_far (p := ⟨gb179, 0, none⟩) (Kd.R_types HO175.out BK179.out (by decide)) (fun _ hk => hk.2) (.slice Ao58 t173.length co58)) (fun _ hk => hk.2) (.slice Ao65 t176.length co65)) (fun _ hk => ⟨hk.1.1.2, ⟨hk.1.2, hk.1.1.1⟩⟩)⟩
                have n4_ : Aside0 (Kd.R (Kd.int .i64) 3 ((w57.setCell ⟨gb179, 0, none⟩ (.slice Ao58 t173.length co58)).setCell ⟨gb179, 1, none⟩ (.slice Ao65 t176.length co65)) w.heap.size (fun k_ => some k_ ≠ (.slice Ao46 t164.length co46 : Value).ownBlock ∧ some k_ ≠ (.slice Ao52 t167.length co52 : Value).ownBlock ∧ some k_ ≠ (.slice Ao58 t173.length co58 : Value).ownBlock) (.slice Ao65 t176.length co65) t176) := ⟨by (with_reducible repeat (first | apply Kd.R_alloc | apply Kd.R_drewN | apply Kd.R_drew)); exact Kd.R_mono (Kd.R_far (p := ⟨gb179, 1, none⟩) (Kd.R_far (p := ⟨gb179, 0, none⟩) (Kd.R_types HO178.out BK179.out (by decide)) (fun _ hk => hk.2) (.slice Ao58 t173.length co58)) (fun _ hk => hk.2) (.slice Ao65 t176.length co65)) (fun _ hk => ⟨hk.1.1.2, ⟨hk.1.2, hk.1.1.1⟩⟩)⟩
                have n5_ : Aside0 (((w57.setCell ⟨gb179, 0, none⟩ (.slice Ao58 t173.length co58)).setCell ⟨gb179, 1, none⟩ (.slice Ao65 t176.length co65)).heap[gb153]? = some (.cells #[.slice A0_0 l0_0.length c0_0, .slice A0_1 l0_1.length c0_1] 24 (0, 0))) := ⟨by (with_reducible repeat (first | refine blk_drewN ?_ _ | refine blk_drew ?_ | refine blk_alloc ?_ _)); refine blk_far ?_ NB153_179.out _; (with_reducible repeat (first | refine blk_drewN ?_ _ | refine blk_drew ?_ | refine blk_alloc ?_ _)); refine blk_far ?_ NB153_179.out _; (with_reducible repeat (first | refine blk_drewN ?_ _ | refine blk_drew ?_ | refine blk_alloc ?_ _)); exact BK153.out⟩
                have n6_ : Aside0 (((w57.setCell ⟨gb179, 0, none⟩ (.slice Ao58 t173.length co58)).setCell ⟨gb179, 1, none⟩ (.slice Ao65 t176.length co65)).heap[gb154]? = some (.cells #[.slice none 0 0, .slice none 0 0] 24 (0, 0))) := ⟨by (with_reducible repeat (first | refine blk_drewN ?_ _ | refine blk_drew ?_ | refine blk_alloc ?_ _)); refine blk_far ?_ NB154_179.out _; (with_reducible repeat (first | refine blk_drewN ?_ _ | refine blk_drew ?_ | refine blk_alloc ?_ _)); refine blk_far ?_ NB154_179.out _; (with_reducible repeat (first | refine blk_drewN ?_ _ | refine blk_drew ?_ | refine blk_alloc ?_ _)); exact BK154.out⟩
                have n7_ : Aside0 (((w57.setCell ⟨gb179, 0, none⟩ (.slice Ao58 t173.length co58)).setCell ⟨gb179, 1, none⟩ (.slice Ao65 t176.length co65)).heap[gb155]? = some (.cells #[.slice none 0 0, .slice none 0 0] 24 (0, 0))) := ⟨by (with_reducible repeat (first | refine blk_drewN ?_ _ | refine blk_drew ?_ | refine blk_alloc ?_ _)); refine blk_far ?_ NB155_179.out _; (with_reducible repeat (first | refine blk_drewN ?_ _ | refine blk_drew ?_ | refine blk_alloc ?_ _)); refine blk_far ?_ NB155_179.out _; (with_reducible repeat (first | refine blk_drewN ?_ _ | refine blk_drew ?_ | refine blk_alloc ?_ _)); exact BK155.out⟩
                have n8_ : Aside0 (((w57.setCell ⟨gb179, 0, none⟩ (.slice Ao58 t173.length co58)).setCell ⟨gb179, 1, none⟩ (.slice Ao65 t176.length co65)).heap[gb162]? = some (.cells #[.int .i64 ((rd_T90 t157 a1).f0), .int .i64 ((rd_T90 t157 a1).f1)] 90 (0, 0))) := ⟨by (with_reducible repeat (first | refine blk_drewN ?_ _ | refine blk_drew ?_ | refine blk_alloc ?_ _)); refine blk_far ?_ NB162_179.out _; (with_reducible repeat (first | refine blk_drewN ?_ _ | refine blk_drew ?_ | refine blk_alloc ?_ _)); refine blk_far ?_ NB162_179.out _; (with_reducible repeat (first | refine blk_drewN ?_ _ | refine blk_drew ?_ | refine blk_alloc ?_ _)); exact BK162.out⟩
                have n9_ : Aside0 (((w57.setCell ⟨gb179, 0, none⟩ (.slice Ao58 t173.length co58)).setCell ⟨gb179, 1, none⟩ (.slice Ao65 t176.length co65)).heap[gb170]? = some (.cells #[.slice Ao46 t164.length co46, .slice Ao52 t167.length co52] 24 (0, 0))) := ⟨by (with_reducible repeat (first | refine blk_drewN ?_ _ | refine blk_drew ?_ | refine blk_alloc ?_ _)); refine blk_far ?_ NB170_179.out _; (with_reducible repeat (first | refine blk_drewN ?_ _ | refine blk_drew ?_ | refine blk_alloc ?_ _)); refine blk_far ?_ NB170_179.out _; (with_reducible repeat (first | refine blk_drewN ?_ _ | refine blk_drew ?_ | refine blk_alloc ?_ _)); exact BK170.out⟩
                have n10_ : Aside0 (((w57.setCell ⟨gb179, 0, none⟩ (.slice Ao58 t173.length co58)).setCell ⟨gb179, 1, none⟩ (.slice Ao65 t176.length co65)).heap[gb179]? = some (.cells #[.slice Ao58 t173.length co58, .slice Ao65 t176.length co65] 24 (0, 0))) := ⟨by (with_reducible repeat (first | refine blk_drewN ?_ _ | refine blk_drew ?_ | refine blk_alloc ?_ _)); refine blk_put (cs := #[.slice Ao58 t173.length co58, .slice none 0 0]) ?_ 1 _ rfl; (with_reducible repeat (first | refine blk_drewN ?_ _ | refine blk_drew ?_ | refine blk_alloc ?_ _)); refine blk_put (cs := #[.slice none 0 0, .slice none 0 0]) ?_ 0 _ rfl; (with_reducible repeat (first | refine blk_drewN ?_ _ | refine blk_drew ?_ | refine blk_alloc ?_ _)); exact BK179.out⟩
                have n11_ : Aside0 (Below w.heap.size w ((w57.setCell ⟨gb179, 0, none⟩ (.slice Ao58 t173.length co58)).setCell ⟨gb179, 1, none⟩ (.slice Ao65 t176.length co65))) := ⟨by repeat (first | (with_reducible first | exact HB.out | apply below_alloc | apply pw_below_drewN | apply below_drew1 | refine below_set ?_ GE153.out | refine below_set ?_ GE154.out | refine below_set ?_ GE155.out | refine below_set ?_ GE162.out | refine below_set ?_ GE170.out | refine below_set ?_ GE179.out) | exact HB.out)⟩
                (try clear HO_8)
                (try clear HO166)
                (try clear HO169)
                (try clear HO175)
                (try clear HO178)
                (try clear BK153)
                (try clear BK154)
                (try clear BK155)
                (try clear BK162)
                (try clear BK170)
                (try clear BK179)
                (try clear HB)
                generalize ((w57.setCell ⟨gb179, 0, none⟩ (.slice Ao58 t173.length co58)).setCell ⟨gb179, 1, none⟩ (.slice Ao65 t176.length co65)) = w66 at n0_ n1_ n2_ n3_ n4_ n5_ n6_ n7_ n8_ n9_ n10_ n11_ ⊢
                have HO_8 := n0_
                have HO166 := n1_
                have HO169 := n2_
                have HO175 := n3_
                have HO178 := n4_
                have BK153 := n5_
                have BK154 := n6_
                have BK155 := n7_
                have BK162 := n8_
                have BK170 := n9_
                have BK179 := n10_
                have HB := n11_
                clear n0_ n1_ n2_ n3_ n4_ n5_ n6_ n7_ n8_ n9_ n10_ n11_
                have n0_ := Aside0.mk (Kd.R_drew HO_8.out)
                have n1_ := Aside0.mk (Kd.R_drew HO166.out)
                have n2_ := Aside0.mk (Kd.R_drew HO169.out)
                have n3_ := Aside0.mk (Kd.R_drew HO175.out)
                have n4_ := Aside0.mk (Kd.R_drew HO178.out)
                have n5_ := Aside0.mk (blk_drew BK153.out)
                have n6_ := Aside0.mk (blk_drew BK154.out)
                have n7_ := Aside0.mk (blk_drew BK155.out)
                have n8_ := Aside0.mk (blk_drew BK162.out)
                have n9_ := Aside0.mk (blk_drew BK170.out)
                have n10_ := Aside0.mk (blk_drew BK179.out)
                have n11_ := Aside0.mk (below_drew1 HB.out)
                clear HO_8
                clear HO166
                clear HO169
                clear HO175
                clear HO178
                clear BK153
                clear BK154
                clear BK155
                clear BK162
                clear BK170
                clear BK179
                clear HB
                have HO_8 := n0_
                have HO166 := n1_
                have HO169 := n2_
                have HO175 := n3_
                have HO178 := n4_
                have BK153 := n5_
                have BK154 := n6_
                have BK155 := n7_
                have BK162 := n8_
                have BK170 := n9_
                have BK179 := n10_
                have HB := n11_
                clear n0_ n1_ n2_ n3_ n4_ n5_ n6_ n7_ n8_ n9_ n10_ n11_
                have p180 : 0 ≤ (a1 : Int) := of_decide_eq_true (by first | (with_reducible assumption) | assumption)
                have q180 : a1 < (y172.length : Int) := (by have h_ : (a1 : Int) < ((t157.length : Int) : Int) := of_decide_eq_true (by first | (with_reducible assumption) | assumption); first | (have e_ := (Kd.R_reads' HO_8.out).1; omega) | simpa only [Ny163.out, Ny172.out, List.length_set] using h_)
                have ql180 : ((a1 : Int) < ((t157.length : Int) : Int)) = True := eq_true (of_decide_eq_true (by first | (with_reducible assumption) | assumption))
                obtain ⟨ad180, e180, hx180_0, hx180_1⟩ := at_T90 (Kd.R_reads' HO_8.out).2.2 a1 p180 q180
                obtain rfl : (⟨go29, 0, none⟩ : Addr) = ad180 := (by injection e180)
                (first | simp only [add_plain] at hx180_0 | simp only [add_at] at hx180_0 | simp only [Addr.add, Nat.zero_add] at hx180_0 | skip)
                (first | simp only [add_plain] at hx180_1 | simp only [add_at] at hx180_1 | simp only [Addr.add, Nat.zero_add] at hx180_1 | skip)
                replace p180 := eq_true p180
                replace q180 := eq_true q180
                refine start_ (n := 6) (S := fun w' => w'.cell? ⟨gb162, 0, none⟩ = some (.int .i64 ((rd_T90 t157 a1).f0)) ∧ w'.cell? ⟨gb162, 1, none⟩ = some (.int .i64 ((rd_T90 t157 a1).f1)) ∧ w'.cell? ⟨go29, (a1).toNat * 2, none⟩ = some (.int .i64 ((rd_T90 y172 a1).f0)) ∧ w'.cell? ⟨go29, (a1).toNat * 2 + 1, none⟩ = some (.int .i64 ((rd_T90 y172 a1).f1))) (ds := []) #[false, false, false, false, false, false] (by kernel_rfl) rfl rfl ⟨(blk_cell BK162.out 0).trans rfl, (blk_cell BK162.out 1).trans rfl, hx180_0, hx180_1⟩ (fun hHeld => ?_)
                generalize w66.drew = w67 at HO_8 HO166 HO169 HO175 HO178 BK153 BK154 BK155 BK162 BK170 BK179 HB hx180_0 hx180_1 hHeld ⊢
                refine pure_ (i := 0) (N := some 66) (v := ?_) (a' := ?_) #[true, false, false, false, false, false] rfl rfl (by kernel_rfl) (fun _ _ _ h => h) (Or.inl ⟨by rfl, ?_⟩) ?_ ?_
                rotate_left
                · intro w'
                  go_simp
                  with_reducible rfl
                rotate_left
                · simp only [Act.put, List.setIfInBounds_toArray, List.set_cons_zero, List.set_cons_succ, i64_w, i32_w]
                  rfl
                refine pure_ (i := 1) (N := some 67) (v := ?_) (a' := ?_) #[true, true, false, false, false, false] rfl rfl (by kernel_rfl) (fun _ _ _ h => h) (Or.inl ⟨by rfl, ?_⟩) ?_ ?_
                rotate_left
                · intro w'
                  go_simp
                  with_reducible rfl
                rotate_left
                · simp only [Act.put, List.setIfInBounds_toArray, List.set_cons_zero, List.set_cons_succ, i64_w, i32_w]
                  rfl
                refine pure_ (i := 2) (N := some 68) (v := ?_) (a' := ?_) #[true, true, true, false, false, false] rfl rfl (by kernel_rfl) (fun _ _ _ h => h) (Or.inl ⟨by rfl, ?_⟩) ?_ ?_
                rotate_left
                · intro w'
                  go_simp
                  with_reducible rfl
                rotate_left
                · simp only [Act.put, List.setIfInBounds_toArray, List.set_cons_zero, List.set_cons_succ, i64_w, i32_w]
                  rfl
                refine take_ (i := 3) (N := some 69) (v := ?_) (a' := ?_) #[true, true, true, true, false, false] rfl rfl (by kernel_rfl) (fun _ _ _ h => h) (Or.inl ⟨by rfl, ?_⟩) hHeld ?_ ?_
                rotate_left
                · rintro w' ⟨s0, s1, s2, s3⟩
                  go_simp
                  with_reducible rfl
                rotate_left
                · simp only [Act.put, List.setIfInBounds_toArray, List.set_cons_zero, List.set_cons_succ, i64_w, i32_w]
                  rfl
                refine take_ (i := 4) (N := some 70) (v := ?_) (a' := ?_) #[true, true, true, true, true, false] rfl rfl (by kernel_rfl) (fun _ _ _ h => h) (Or.inl ⟨by rfl, ?_⟩) hHeld ?_ ?_
                rotate_left
                · rintro w' ⟨s0, s1, s2, s3⟩
                  go_simp
                  with_reducible rfl
                rotate_left
                · simp only [Act.put, List.setIfInBounds_toArray, List.set_cons_zero, List.set_cons_succ, i64_w, i32_w]
                  rfl
                refine pure_ (i := 5) (N := some 71) (v := ?_) (a' := ?_) #[true, true, true, true, true, true] rfl rfl (by kernel_rfl) (fun _ _ _ h => h) (Or.inl ⟨by rfl, ?_⟩) ?_ ?_
                rotate_left
                · intro w'
                  go_simp
                  rw [split_Halve.ite2 c33b0]
                rotate_left
                · simp only [Act.put, List.setIfInBounds_toArray, List.set_cons_zero, List.set_cons_succ, i64_w, i32_w]
                  rfl
                refine done_ (by kernel_rfl) ?_
                try go_wp2
                have n0_ := Aside0.mk (Kd.R_drew HO_8.out)
                have n1_ := Aside0.mk (Kd.R_drew HO166.out)
                have n2_ := Aside0.mk (Kd.R_drew HO169.out)
                have n3_ := Aside0.mk (Kd.R_drew HO175.out)
                have n4_ := Aside0.mk (Kd.R_drew HO178.out)
                have n5_ := Aside0.mk (blk_drew BK153.out)
                have n6_ := Aside0.mk (blk_drew BK154.out)
                have n7_ := Aside0.mk (blk_drew BK155.out)
                have n8_ := Aside0.mk (blk_drew BK162.out)
                have n9_ := Aside0.mk (blk_drew BK170.out)
                have n10_ := Aside0.mk (blk_drew BK179.out)
                have n11_ := Aside0.mk (below_drew1 HB.out)
                clear HO_8
                clear HO166
                clear HO169
                clear HO175
                clear HO178
                clear BK153
                clear BK154
                clear BK155
                clear BK162
                clear BK170
                clear BK179
                clear HB
                have HO_8 := n0_
                have HO166 := n1_
                have HO169 := n2_
                have HO175 := n3_
                have HO178 := n4_
                have BK153 := n5_
                have BK154 := n6_
                have BK155 := n7_
                have BK162 := n8_
                have BK170 := n9_
                have BK179 := n10_
                have HB := n11_
                clear n0_ n1_ n2_ n3_ n4_ n5_ n6_ n7_ n8_ n9_ n10_ n11_
                refine start_ (n := 5) (S := fun w' => w'.cell? ⟨gb170, 0, none⟩ = some (.slice Ao46 t164.length co46) ∧ w'.cell? ⟨gb170, 1, none⟩ = some (.slice Ao52 t167.length co52) ∧ w'.cell? ⟨gb179, 0, none⟩ = some (.slice Ao58 t173.length co58) ∧ w'.cell? ⟨gb179, 1, none⟩ = some (.slice Ao65 t176.length co65)) (ds := []) #[false, false, false, false, false] (by kernel_rfl) rfl rfl ⟨(blk_cell BK170.out 0).trans rfl, (blk_cell BK170.out 1).trans rfl, (blk_cell BK179.out 0).trans rfl, (blk_cell BK179.out 1).trans rfl⟩ (fun hHeld => ?_)
                generalize w67.drew = w68 at HO_8 HO166 HO169 HO175 HO178 BK153 BK154 BK155 BK162 BK170 BK179 HB hHeld ⊢
                refine take_ (i := 0) (N := some 74) (v := ?_) (a' := ?_) #[true, false, false, false, false] rfl rfl (by kernel_rfl) (fun _ _ _ h => h) (Or.inl ⟨by rfl, ?_⟩) hHeld ?_ ?_
                rotate_left
                · rintro w' ⟨s0, s1, s2, s3⟩
                  go_simp
                  with_reducible rfl
                rotate_left
                · simp only [Act.put, List.setIfInBounds_toArray, List.set_cons_zero, List.set_cons_succ, i64_w, i32_w]
                  rfl
                refine take_ (i := 1) (N := some 75) (v := ?_) (a' := ?_) #[true, true, false, false, false] rfl rfl (by kernel_rfl) (fun _ _ _ h => h) (Or.inl ⟨by rfl, ?_⟩) hHeld ?_ ?_
                rotate_left
                · rintro w' ⟨s0, s1, s2, s3⟩
                  go_simp
                  with_reducible rfl
                rotate_left
                · simp only [Act.put, List.setIfInBounds_toArray, List.set_cons_zero, List.set_cons_succ, i64_w, i32_w]
                  rfl
                refine one_ (i := 2) (N := none) #[true, true, true, false, false] rfl rfl (by kernel_rfl) (by decide) (fun K hK => ?_)
                have hs69 : w68.cell? ⟨gb154, 0, none⟩ = some (.slice none 0 0) := (blk_cell BK154.out 0).trans rfl
                have hfs69 := blk_frozen BK154.out 0
                have hns69_0 := NB153_154.out
                have hns69_2 := NB155_154.out
                have hns69_3 := NB162_154.out
                have hns69_4 := NB170_154.out
                have hns69_5 := NB179_154.out
                have hms69_0 := NB154_153.out
                have hms69_2 := NB154_155.out
                have hms69_3 := NB154_162.out
                have hms69_4 := NB154_170.out
                have hms69_5 := NB154_179.out
                have hs70 : w68.cell? ⟨gb154, 1, none⟩ = some (.slice none 0 0) := (blk_cell BK154.out 1).trans rfl
                have hfs70 := blk_frozen BK154.out 1
                have hns70_0 := NB153_154.out
                have hns70_2 := NB155_154.out
                have hns70_3 := NB162_154.out
                have hns70_4 := NB170_154.out
                have hns70_5 := NB179_154.out
                have hms70_0 := NB154_153.out
                have hms70_2 := NB154_155.out
                have hms70_3 := NB154_162.out
                have hms70_4 := NB154_170.out
                have hms70_5 := NB154_179.out
                refine skip_ (w1 := ?_) (by rfl) rfl ?_ ?_
                rotate_left
                · go_simp
                  rfl
                refine hK.out _ _ ⟨((cell_far (p := ⟨gb154, _, none⟩) NB170_154.out _).trans (((cell_far (p := ⟨gb154, _, none⟩) NB170_154.out _).trans (hHeld.1)))), ((cell_far (p := ⟨gb154, _, none⟩) NB170_154.out _).trans (((cell_far (p := ⟨gb154, _, none⟩) NB170_154.out _).trans (hHeld.2.1)))), ((cell_far (p := ⟨gb154, _, none⟩) NB179_154.out _).trans (((cell_far (p := ⟨gb154, _, none⟩) NB179_154.out _).trans (hHeld.2.2.1)))), ((cell_far (p := ⟨gb154, _, none⟩) NB179_154.out _).trans (((cell_far (p := ⟨gb154, _, none⟩) NB179_154.out _).trans (hHeld.2.2.2))))⟩ (fun hHeld => ?_)
                clear hK K
                refine one_ (i := 3) (N := none) #[true, true, true, true, false] rfl rfl (by kernel_rfl) (by decide) (fun K hK => ?_)
                have hs71 : w68.cell? ⟨gb155, 0, none⟩ = some (.slice none 0 0) := (blk_cell BK155.out 0).trans rfl
                have hfs71 := blk_frozen BK155.out 0
                have hns71_0 := NB153_155.out
                have hns71_1 := NB154_155.out
                have hns71_3 := NB162_155.out
                have hns71_4 := NB170_155.out
                have hns71_5 := NB179_155.out
                have hms71_0 := NB155_153.out
                have hms71_1 := NB155_154.out
                have hms71_3 := NB155_162.out
                have hms71_4 := NB155_170.out
                have hms71_5 := NB155_179.out
                have hs72 : w68.cell? ⟨gb155, 1, none⟩ = some (.slice none 0 0) := (blk_cell BK155.out 1).trans rfl
                have hfs72 := blk_frozen BK155.out 1
                have hns72_0 := NB153_155.out
                have hns72_1 := NB154_155.out
                have hns72_3 := NB162_155.out
                have hns72_4 := NB170_155.out
                have hns72_5 := NB179_155.out
                have hms72_0 := NB155_153.out
                have hms72_1 := NB155_154.out
                have hms72_3 := NB155_162.out
                have hms72_4 := NB155_170.out
                have hms72_5 := NB155_179.out
                refine skip_ (w1 := ?_) (by rfl) rfl ?_ ?_
                rotate_left
                · go_simp
                  rfl
                refine hK.out _ _ ⟨((cell_far (p := ⟨gb155, _, none⟩) NB170_155.out _).trans (((cell_far (p := ⟨gb155, _, none⟩) NB170_155.out _).trans (hHeld.1)))), ((cell_far (p := ⟨gb155, _, none⟩) NB170_155.out _).trans (((cell_far (p := ⟨gb155, _, none⟩) NB170_155.out _).trans (hHeld.2.1)))), ((cell_far (p := ⟨gb155, _, none⟩) NB179_155.out _).trans (((cell_far (p := ⟨gb155, _, none⟩) NB179_155.out _).trans (hHeld.2.2.1)))), ((cell_far (p := ⟨gb155, _, none⟩) NB179_155.out _).trans (((cell_far (p := ⟨gb155, _, none⟩) NB179_155.out _).trans (hHeld.2.2.2))))⟩ (fun hHeld => ?_)
                clear hK K
                refine pure_ (i := 4) (N := some 6) (v := ?_) (a' := ?_) #[true, true, true, true, true] rfl rfl (by kernel_rfl) (fun _ _ _ h => h) (Or.inl ⟨by rfl, ?_⟩) ?_ ?_
                rotate_left
                · intro w'
                  go_simp
                  with_reducible rfl
                rotate_left
                · simp only [Act.put, List.setIfInBounds_toArray, List.set_cons_zero, List.set_cons_succ, i64_w, i32_w]
                  rfl
                refine done_ (by kernel_rfl) ?_
                try go_wp2
                refine bodyPost_ret (results_list (rs := [.cell 4 24, .cell 5 24, .tmp 6]) rfl (by simp) (.cell gb154 24 #[.slice Ao46 t164.length co46, .slice Ao52 t167.length co52] (0, 0) _ rfl (by (with_reducible repeat (first | refine blk_drewN ?_ _ | refine blk_drew ?_ | refine blk_alloc ?_ _)); refine blk_far ?_ NB154_155.out _; (with_reducible repeat (first | refine blk_drewN ?_ _ | refine blk_drew ?_ | refine blk_alloc ?_ _)); refine blk_far ?_ NB154_155.out _; (with_reducible repeat (first | refine blk_drewN ?_ _ | refine blk_drew ?_ | refine blk_alloc ?_ _)); refine blk_put (cs := #[.slice Ao46 t164.length co46, .slice none 0 0]) ?_ 1 _ rfl; (with_reducible repeat (first | refine blk_drewN ?_ _ | refine blk_drew ?_ | refine blk_alloc ?_ _)); refine blk_put (cs := #[.slice none 0 0, .slice none 0 0]) ?_ 0 _ rfl; (with_reducible repeat (first | refine blk_drewN ?_ _ | refine blk_drew ?_ | refine blk_alloc ?_ _)); exact BK154.out) Try.underlying24 rfl (by kernel_rfl) (.cell gb155 24 #[.slice Ao58 t173.length co58, .slice Ao65 t176.length co65] (0, 0) _ rfl (by (with_reducible repeat (first | refine blk_drewN ?_ _ | refine blk_drew ?_ | refine blk_alloc ?_ _)); refine blk_put (cs := #[.slice Ao58 t173.length co58, .slice none 0 0]) ?_ 1 _ rfl; (with_reducible repeat (first | refine blk_drewN ?_ _ | refine blk_drew ?_ | refine blk_alloc ?_ _)); refine blk_put (cs := #[.slice none 0 0, .slice none 0 0]) ?_ 0 _ rfl; (with_reducible repeat (first | refine blk_drewN ?_ _ | refine blk_drew ?_ | refine blk_alloc ?_ _)); refine blk_far ?_ NB155_154.out _; (with_reducible repeat (first | refine blk_drewN ?_ _ | refine blk_drew ?_ | refine blk_alloc ?_ _)); refine blk_far ?_ NB155_154.out _; (with_reducible repeat (first | refine blk_drewN ?_ _ | refine blk_drew ?_ | refine blk_alloc ?_ _)); exact BK155.out) Try.underlying24 rfl (by kernel_rfl) (.tmp .nil)))) rfl ?_
                exact ⟨_, _, _, _, by first | rfl | (simp [errW_none, errW_some] <;> rfl) | (simp [*, errW_none, errW_some] <;> rfl), by (with_reducible repeat (first | apply Kd.R_alloc | apply Kd.R_drewN | apply Kd.R_drew)); exact Kd.R_mono (Kd.R_far (p := ⟨gb155, 1, none⟩) (Kd.R_far (p := ⟨gb155, 0, none⟩) (Kd.R_far (p := ⟨gb154, 1, none⟩) (Kd.R_far (p := ⟨gb154, 0, none⟩) (Kd.R_types (Kd.R_types HO166.out BK154.out (by decide)) BK155.out (by decide)) (fun _ hk => hk.1.2) (.slice Ao46 t164.length co46)) (fun _ hk => hk.1.2) (.slice Ao52 t167.length co52)) (fun _ hk => hk.2) (.slice Ao58 t173.length co58)) (fun _ hk => hk.2) (.slice Ao65 t176.length co65)) (fun _ hk => ⟨hk.1.1.1, ⟨hk.1.1.2.1, hk.1.1.2.2⟩⟩), by (with_reducible repeat (first | apply Kd.R_alloc | apply Kd.R_drewN | apply Kd.R_drew)); exact Kd.R_mono (Kd.R_far (p := ⟨gb155, 1, none⟩) (Kd.R_far (p := ⟨gb155, 0, none⟩) (Kd.R_far (p := ⟨gb154, 1, none⟩) (Kd.R_far (p := ⟨gb154, 0, none⟩) (Kd.R_types (Kd.R_types HO169.out BK154.out (by decide)) BK155.out (by decide)) (fun _ hk => hk.1.2) (.slice Ao46 t164.length co46)) (fun _ hk => hk.1.2) (.slice Ao52 t167.length co52)) (fun _ hk => hk.2) (.slice Ao58 t173.length co58)) (fun _ hk => hk.2) (.slice Ao65 t176.length co65)) (fun _ hk => ⟨hk.1.1.1, ⟨hk.1.1.2.1, hk.1.1.2.2⟩⟩), by (with_reducible repeat (first | apply Kd.R_alloc | apply Kd.R_drewN | apply Kd.R_drew)); exact Kd.R_mono (Kd.R_far (p := ⟨gb155, 1, none⟩) (Kd.R_far (p := ⟨gb155, 0, none⟩) (Kd.R_far (p := ⟨gb154, 1, none⟩) (Kd.R_far (p := ⟨gb154, 0, none⟩) (Kd.R_types (Kd.R_types HO175.out BK154.out (by decide)) BK155.out (by decide)) (fun _ hk => hk.1.2) (.slice Ao46 t164.length co46)) (fun _ hk => hk.1.2) (.slice Ao52 t167.length co52)) (fun _ hk => hk.2) (.slice Ao58 t173.length co58)) (fun _ hk => hk.2) (.slice Ao65 t176.length co65)) (fun _ hk => ⟨hk.1.1.1, ⟨hk.1.1.2.1, hk.1.1.2.2⟩⟩), by (with_reducible repeat (first | apply Kd.R_alloc | apply Kd.R_drewN | apply Kd.R_drew)); exact Kd.R_mono (Kd.R_far (p := ⟨gb155, 1, none⟩) (Kd.R_far (p := ⟨gb155, 0, none⟩) (Kd.R_far (p := ⟨gb154, 1, none⟩) (Kd.R_far (p := ⟨gb154, 0, none⟩) (Kd.R_types (Kd.R_types HO178.out BK154.out (by decide)) BK155.out (by decide)) (fun _ hk => hk.1.2) (.slice Ao46 t164.length co46)) (fun _ hk => hk.1.2) (.slice Ao52 t167.length co52)) (fun _ hk => hk.2) (.slice Ao58 t173.length co58)) (fun _ hk => hk.2) (.slice Ao65 t176.length co65)) (fun _ hk => ⟨hk.1.1.1, ⟨hk.1.1.2.1, hk.1.1.2.2⟩⟩), by repeat (first | (with_reducible first | exact HB.out | apply below_alloc | apply pw_below_drewN | apply below_drew1 | refine below_set ?_ GE153.out | refine below_set ?_ GE154.out | refine below_set ?_ GE155.out | refine below_set ?_ GE162.out | refine below_set ?_ GE170.out | refine below_set ?_ GE179.out) | exact HB.out)⟩
            · rw [if_neg c28] at H
              exact absurd H (by simp)
          · rw [if_neg c27] at H
            exact absurd H (by simp)
  · rw [if_neg c4] at H
    have c4b0 : (t156 == 0) = false := beq_eq_false_iff_ne.mpr c4
    have c4b1 : (t156 != 0) = true := bne_iff_ne.mpr c4
    simp only [Option.some.injEq, Prod.mk.injEq] at H
    obtain ⟨rfl, rfl, rfl, rfl, rfl⟩ := H
    go_enter Try.func15, Try.ntmps15
    go_wp2_with (first | ((with_reducible refine gate_dst (N := 2) rfl ?_); refine box_event ?hg (N := 2) ?hd (cs := #[.slice A0_0 l0_0.length c0_0, .slice A0_1 l0_1.length c0_1]) (t := 24) ?hr ?_; (case hd => rfl); (case hg => rfl); (case hr => first | (go_simp; done) | (go_simp; rfl)); intro gb153 hg w73 hbox hb; have n0_ := Aside0.mk (below_step (by repeat (first | (with_reducible first | exact HB.out | apply below_alloc | apply pw_below_drewN | apply below_drew1) | exact HB.out)) hb); have n1_ := Aside0.mk (hbox); have n2_ := Aside0.mk ((by rw [hg]; exact (below_size (by repeat (first | (with_reducible first | exact HB.out | apply below_alloc | apply pw_below_drewN | apply below_drew1) | exact HB.out))) : w.heap.size ≤ gb153)); have n3_ := Aside0.mk ((by rw [hg]; exact (below_size (by repeat (first | (with_reducible first | exact HB.out | apply below_alloc | apply pw_below_drewN | apply below_drew1) | exact HB.out))) : w.heap.size ≤ gb153)); clear HB; have HB := n0_; have BK153 := n1_; have GW153 := n2_; have GE153 := n3_; clear n0_ n1_ n2_ n3_; clear hb hbox hg) | ((with_reducible refine gate_dst (N := 4) rfl ?_); refine box_event ?hg (N := 4) ?hd (cs := #[.slice none 0 0, .slice none 0 0]) (t := 24) ?hr ?_; (case hd => rfl); (case hg => rfl); (case hr => first | (go_simp; done) | (go_simp; rfl)); intro gb154 hg w74 hbox hb; have n0_ := Aside0.mk (blk_below (g := gb153) (o := .cells #[.slice A0_0 l0_0.length c0_0, .slice A0_1 l0_1.length c0_1] 24 (0, 0)) (by (with_reducible repeat (first | refine blk_drewN ?_ _ | refine blk_drew ?_ | refine blk_alloc ?_ _)); exact BK153.out) hb); have n1_ := Aside0.mk (below_step (by repeat (first | (with_reducible first | exact HB.out | apply below_alloc | apply pw_below_drewN | apply below_drew1 | refine below_set ?_ GE153.out) | exact HB.out)) hb); have n2_ := Aside0.mk (hbox); have n3_ := Aside0.mk ((by rw [hg]; exact (below_size (by repeat (first | (with_reducible first | exact HB.out | apply below_alloc | apply pw_below_drewN | apply below_drew1 | refine below_set ?_ GE153.out) | exact HB.out))) : w.heap.size ≤ gb154)); have n4_ := Aside0.mk ((by rw [hg]; exact (below_size (by repeat (first | (with_reducible first | exact HB.out | apply below_alloc | apply pw_below_drewN | apply below_drew1 | refine below_set ?_ GE153.out) | exact HB.out))) : w.heap.size ≤ gb154)); have n5_ := Aside0.mk ((by rw [hg]; exact Nat.ne_of_lt (blk_lt (g := gb153) (o := .cells #[.slice A0_0 l0_0.length c0_0, .slice A0_1 l0_1.length c0_1] 24 (0, 0)) (by (with_reducible repeat (first | refine blk_drewN ?_ _ | refine blk_drew ?_ | refine blk_alloc ?_ _)); exact BK153.out)) : gb153 ≠ gb154)); have n6_ := Aside0.mk ((by rw [hg]; exact Nat.ne_of_gt (blk_lt (g := gb153) (o := .cells #[.slice A0_0 l0_0.length c0_0, .slice A0_1 l0_1.length c0_1] 24 (0, 0)) (by (with_reducible repeat (first | refine blk_drewN ?_ _ | refine blk_drew ?_ | refine blk_alloc ?_ _)); exact BK153.out)) : gb154 ≠ gb153)); clear BK153; clear HB; have BK153 := n0_; have HB := n1_; have BK154 := n2_; have GW154 := n3_; have GE154 := n4_; have NB153_154 := n5_; have NB154_153 := n6_; clear n0_ n1_ n2_ n3_ n4_ n5_ n6_; clear hb hbox hg) | ((with_reducible refine gate_dst (N := 5) rfl ?_); refine box_event ?hg (N := 5) ?hd (cs := #[.slice none 0 0, .slice none 0 0]) (t := 24) ?hr ?_; (case hd => rfl); (case hg => rfl); (case hr => first | (go_simp; done) | (go_simp; rfl)); intro gb155 hg w75 hbox hb; have n0_ := Aside0.mk (blk_below (g := gb153) (o := .cells #[.slice A0_0 l0_0.length c0_0, .slice A0_1 l0_1.length c0_1] 24 (0, 0)) (by (with_reducible repeat (first | refine blk_drewN ?_ _ | refine blk_drew ?_ | refine blk_alloc ?_ _)); exact BK153.out) hb); have n1_ := Aside0.mk (blk_below (g := gb154) (o := .cells #[.slice none 0 0, .slice none 0 0] 24 (0, 0)) (by (with_reducible repeat (first | refine blk_drewN ?_ _ | refine blk_drew ?_ | refine blk_alloc ?_ _)); exact BK154.out) hb); have n2_ := Aside0.mk (below_step (by repeat (first | (with_reducible first | exact HB.out | apply below_alloc | apply pw_below_drewN | apply below_drew1 | refine below_set ?_ GE153.out | refine below_set ?_ GE154.out) | exact HB.out)) hb); have n3_ := Aside0.mk (hbox); have n4_ := Aside0.mk ((by rw [hg]; exact (below_size (by repeat (first | (with_reducible first | exact HB.out | apply below_alloc | apply pw_below_drewN | apply below_drew1 | refine below_set ?_ GE153.out | refine below_set ?_ GE154.out) | exact HB.out))) : w.heap.size ≤ gb155)); have n5_ := Aside0.mk ((by rw [hg]; exact (below_size (by repeat (first | (with_reducible first | exact HB.out | apply below_alloc | apply pw_below_drewN | apply below_drew1 | refine below_set ?_ GE153.out | refine below_set ?_ GE154.out) | exact HB.out))) : w.heap.size ≤ gb155)); have n6_ := Aside0.mk ((by rw [hg]; exact Nat.ne_of_lt (blk_lt (g := gb153) (o := .cells #[.slice A0_0 l0_0.length c0_0, .slice A0_1 l0_1.length c0_1] 24 (0, 0)) (by (with_reducible repeat (first | refine blk_drewN ?_ _ | refine blk_drew ?_ | refine blk_alloc ?_ _)); exact BK153.out)) : gb153 ≠ gb155)); have n7_ := Aside0.mk ((by rw [hg]; exact Nat.ne_of_gt (blk_lt (g := gb153) (o := .cells #[.slice A0_0 l0_0.length c0_0, .slice A0_1 l0_1.length c0_1] 24 (0, 0)) (by (with_reducible repeat (first | refine blk_drewN ?_ _ | refine blk_drew ?_ | refine blk_alloc ?_ _)); exact BK153.out)) : gb155 ≠ gb153)); have n8_ := Aside0.mk ((by rw [hg]; exact Nat.ne_of_lt (blk_lt (g := gb154) (o := .cells #[.slice none 0 0, .slice none 0 0] 24 (0, 0)) (by (with_reducible repeat (first | refine blk_drewN ?_ _ | refine blk_drew ?_ | refine blk_alloc ?_ _)); exact BK154.out)) : gb154 ≠ gb155)); have n9_ := Aside0.mk ((by rw [hg]; exact Nat.ne_of_gt (blk_lt (g := gb154) (o := .cells #[.slice none 0 0, .slice none 0 0] 24 (0, 0)) (by (with_reducible repeat (first | refine blk_drewN ?_ _ | refine blk_drew ?_ | refine blk_alloc ?_ _)); exact BK154.out)) : gb155 ≠ gb154)); clear BK153; clear BK154; clear HB; have BK153 := n0_; have BK154 := n1_; have HB := n2_; have BK155 := n3_; have GW155 := n4_; have GE155 := n5_; have NB153_155 := n6_; have NB155_153 := n7_; have NB154_155 := n8_; have NB155_154 := n9_; clear n0_ n1_ n2_ n3_ n4_ n5_ n6_ n7_ n8_ n9_; clear hb hbox hg; have hnb76 := NB153_154.out; have hnc76 := NB154_153.out; have hnb77 := NB153_155.out; have hnc77 := NB155_153.out; have hcz78_0 : w75.cell? ⟨gb153, 0, none⟩ = some (.slice A0_0 l0_0.length c0_0) := (blk_cell BK153.out 0).trans rfl; have hcz78_1 : w75.cell? ⟨gb153, 1, none⟩ = some (.slice A0_1 l0_1.length c0_1) := (blk_cell BK153.out 1).trans rfl; have hfz78_0 := blk_frozen BK153.out 0; have hfz78_1 := blk_frozen BK153.out 1) | ((with_reducible refine gate_callee (f := 17) rfl ?_); refine goesL_ (some 17) rfl rfl Try.func17 (by kernel_rfl) rfl #[.agg #[.slice A0_0 l0_0.length c0_0, .slice A0_1 l0_1.length c0_1], .int .i64 (l0_0.length : Int)] rfl (by (try simp only [List.map_toArray, List.map_cons, List.map_nil]); first | done | rfl | (simp only [List.length_drop, List.length_take]; rfl)) ?_; (with_reducible refine (split_Check.calls k _ _ l0_0 _ _ l0_1 (l0_0.length : Int) t156 _ ?side1 ?side2 ?side3 ?side4 A3.out).mono ?_); (case side1 => repeat (first | exact (Kd.C_below HR0_0.out HB.out) | (with_reducible refine Kd.C_alloc ?_ _) | (with_reducible refine Kd.C_drewN ?_ _) | (with_reducible refine Kd.C_drew ?_))); (case side2 => exact HC0_0.out); (case side3 => repeat (first | exact (Kd.C_below HR0_1.out HB.out) | (with_reducible refine Kd.C_alloc ?_ _) | (with_reducible refine Kd.C_drewN ?_ _) | (with_reducible refine Kd.C_drew ?_))); (case side4 => exact HC0_1.out); rintro e w79 ⟨rfl, hb⟩; refine ⟨_, rfl, ?_⟩; have n0_ := Aside0.mk (blk_below (g := gb153) (o := .cells #[.slice A0_0 l0_0.length c0_0, .slice A0_1 l0_1.length c0_1] 24 (0, 0)) (by (with_reducible repeat (first | refine blk_drewN ?_ _ | refine blk_drew ?_ | refine blk_alloc ?_ _)); exact BK153.out) hb); have n1_ := Aside0.mk (blk_below (g := gb154) (o := .cells #[.slice none 0 0, .slice none 0 0] 24 (0, 0)) (by (with_reducible repeat (first | refine blk_drewN ?_ _ | refine blk_drew ?_ | refine blk_alloc ?_ _)); exact BK154.out) hb); have n2_ := Aside0.mk (blk_below (g := gb155) (o := .cells #[.slice none 0 0, .slice none 0 0] 24 (0, 0)) (by (with_reducible repeat (first | refine blk_drewN ?_ _ | refine blk_drew ?_ | refine blk_alloc ?_ _)); exact BK155.out) hb); have n3_ := Aside0.mk (below_step (by repeat (first | (with_reducible first | exact HB.out | apply below_alloc | apply pw_below_drewN | apply below_drew1 | refine below_set ?_ GE153.out | refine below_set ?_ GE154.out | refine below_set ?_ GE155.out) | exact HB.out)) hb); clear BK153; clear BK154; clear BK155; clear HB; have BK153 := n0_; have BK154 := n1_; have BK155 := n2_; have HB := n3_; clear n0_ n1_ n2_ n3_; (try clear hb); (try clear hb2); (try clear hk); (try clear hi); have hnb80 := NB154_155.out; have hnc80 := NB155_154.out; have hcz81_0 : w79.cell? ⟨gb154, 0, none⟩ = some (.slice none 0 0) := (blk_cell BK154.out 0).trans rfl; have hcz81_1 : w79.cell? ⟨gb154, 1, none⟩ = some (.slice none 0 0) := (blk_cell BK154.out 1).trans rfl; have hfz81_0 := blk_frozen BK154.out 0; have hfz81_1 := blk_frozen BK154.out 1; have hcz82_0 : w79.cell? ⟨gb155, 0, none⟩ = some (.slice none 0 0) := (blk_cell BK155.out 0).trans rfl; have hcz82_1 : w79.cell? ⟨gb155, 1, none⟩ = some (.slice none 0 0) := (blk_cell BK155.out 1).trans rfl; have hfz82_0 := blk_frozen BK155.out 0; have hfz82_1 := blk_frozen BK155.out 1))
    refine bodyPost_ret (results_list (rs := [.cell 4 24, .cell 5 24, .tmp 6]) rfl (by simp) (.cell gb154 24 #[.slice none 0 0, .slice none 0 0] (0, 0) _ rfl (by (with_reducible repeat (first | refine blk_drewN ?_ _ | refine blk_drew ?_ | refine blk_alloc ?_ _)); refine blk_far ?_ NB154_155.out _; (with_reducible repeat (first | refine blk_drewN ?_ _ | refine blk_drew ?_ | refine blk_alloc ?_ _)); refine blk_far ?_ NB154_155.out _; (with_reducible repeat (first | refine blk_drewN ?_ _ | refine blk_drew ?_ | refine blk_alloc ?_ _)); refine blk_put (cs := #[.slice none 0 0, .slice none 0 0]) ?_ 1 _ rfl; (with_reducible repeat (first | refine blk_drewN ?_ _ | refine blk_drew ?_ | refine blk_alloc ?_ _)); refine blk_put (cs := #[.slice none 0 0, .slice none 0 0]) ?_ 0 _ rfl; (with_reducible repeat (first | refine blk_drewN ?_ _ | refine blk_drew ?_ | refine blk_alloc ?_ _)); exact BK154.out) Try.underlying24 rfl (by kernel_rfl) (.cell gb155 24 #[.slice none 0 0, .slice none 0 0] (0, 0) _ rfl (by (with_reducible repeat (first | refine blk_drewN ?_ _ | refine blk_drew ?_ | refine blk_alloc ?_ _)); refine blk_put (cs := #[.slice none 0 0, .slice none 0 0]) ?_ 1 _ rfl; (with_reducible repeat (first | refine blk_drewN ?_ _ | refine blk_drew ?_ | refine blk_alloc ?_ _)); refine blk_put (cs := #[.slice none 0 0, .slice none 0 0]) ?_ 0 _ rfl; (with_reducible repeat (first | refine blk_drewN ?_ _ | refine blk_drew ?_ | refine blk_alloc ?_ _)); refine blk_far ?_ NB155_154.out _; (with_reducible repeat (first | refine blk_drewN ?_ _ | refine blk_drew ?_ | refine blk_alloc ?_ _)); refine blk_far ?_ NB155_154.out _; (with_reducible repeat (first | refine blk_drewN ?_ _ | refine blk_drew ?_ | refine blk_alloc ?_ _)); exact BK155.out) Try.underlying24 rfl (by kernel_rfl) (.tmp .nil)))) rfl ?_
    exact ⟨_, _, _, _, by first | rfl | (simp [errW_none, errW_some] <;> rfl) | (simp [*, errW_none, errW_some] <;> rfl), by first | exact Kd.R_nil _ _ _ _ _ | exact Kd.N_nil _ _ _ _ _ | exact Kd.V_nil _ _ _ _ _ | exact Kd.Q_nil _ _ _ _ _ | exact Kd.S_nil _ _ _ _ _, by first | exact Kd.R_nil _ _ _ _ _ | exact Kd.N_nil _ _ _ _ _ | exact Kd.V_nil _ _ _ _ _ | exact Kd.Q_nil _ _ _ _ _ | exact Kd.S_nil _ _ _ _ _, by first | exact Kd.R_nil _ _ _ _ _ | exact Kd.N_nil _ _ _ _ _ | exact Kd.V_nil _ _ _ _ _ | exact Kd.Q_nil _ _ _ _ _ | exact Kd.S_nil _ _ _ _ _, by first | exact Kd.R_nil _ _ _ _ _ | exact Kd.N_nil _ _ _ _ _ | exact Kd.V_nil _ _ _ _ _ | exact Kd.Q_nil _ _ _ _ _ | exact Kd.S_nil _ _ _ _ _, by repeat (first | (with_reducible first | exact HB.out | apply below_alloc | apply pw_below_drewN | apply below_drew1 | refine below_set ?_ GE153.out | refine below_set ?_ GE154.out | refine below_set ?_ GE155.out) | exact HB.out)⟩

end Go.Proofs.Ytlidbaejhmamjaa.PB

namespace Go.Proofs.Ytlidbaejhmamjaa.PB
open Go.RowKit Go.Proofs.YtlidbaejhmamjaaW.PrintWords Go.Proofs.YtlidbaejhmamjaaW.PrintLast Go.Proofs.YtlidbaejhmamjaaW.PrintMore
attribute [local go_sem] max2_int min2_int max_two min_two max_three min_three max_four min_four   -- for this text's walks alone
set_option linter.unusedVariables false
set_option linter.unusedSimpArgs false

/-! ### split_Way: function 19 -/
def split_Way.l0 : Nat → Int → List Int → Int → Int → Option (Int × Int)
  | 0, _, _, _, _ => none
  | k + 1, x4, x14, x15, x16 => if x16 < x15 then (if 0 ≤ x16 then (if x16 < (x14.length : Int) then (split_Way.l0 k (wrap64 (x4 + (rd x14 x16))) x14 x15 (wrap64 (x16 + 1))) else (none)) else (none)) else (some (x4, 0))
def split_Way.f (k : Nat) (l0_0 : List Int) (l0_1 : List Int) : Option (Int × Int) := (split_Check.f k l0_0 l0_1 (l0_0.length : Int)).bind fun t182 => (if t182 = 0 then (split_Way.l0 k 0 l0_0 (l0_0.length : Int) 0) else (some (0, 180)))
theorem split_Way.mono_l : ∀ k, (∀ y0 y1 y2 y3, LeO (split_Way.l0 k y0 y1 y2 y3) (split_Way.l0 (k + 1) y0 y1 y2 y3))
  | 0 => fun _ _ _ _ r h => by simp [split_Way.l0] at h
  | k + 1 => by
    have ih0 := split_Way.mono_l k
    · intro y0 y1 y2 y3
      unfold split_Way.l0
      repeat' first
      | (with_reducible exact ih0 _ _ _ _)
      | (with_reducible exact split_Check.mono _ _ _ _)
      | (with_reducible exact LeO.refl _)
      | (with_reducible exact LeO.none _)
      | (with_reducible refine LeO.ite ?_ ?_)
      | (with_reducible refine LeO.bind ?_ (fun _ => ?_))
      | exact ih0 _ _ _ _
      | exact split_Check.mono _ _ _ _
      | exact LeO.none _
      | refine LeO.ite ?_ ?_
      | refine LeO.bind ?_ (fun _ => ?_)
theorem split_Way.mono : ∀ a0 a1 k, LeO (split_Way.f k a0 a1) (split_Way.f (k + 1) a0 a1) := by
  intro a0 a1 k
  have ih0 := split_Way.mono_l k
  unfold split_Way.f
  repeat' first
      | (with_reducible exact ih0 _ _ _ _)
      | (with_reducible exact split_Check.mono _ _ _ _)
      | (with_reducible exact LeO.refl _)
      | (with_reducible exact LeO.none _)
      | (with_reducible refine LeO.ite ?_ ?_)
      | (with_reducible refine LeO.bind ?_ (fun _ => ?_))
      | exact ih0 _ _ _ _
      | exact split_Check.mono _ _ _ _
      | exact LeO.none _
      | refine LeO.ite ?_ ?_
      | refine LeO.bind ?_ (fun _ => ?_)
set_option maxHeartbeats 8000000 in
set_option maxRecDepth 100000 in
theorem split_Way.calls (k : Nat) (A0_0 : Option Addr) (c0_0 : Nat) (l0_0 : List Int) (A0_1 : Option Addr) (c0_1 : Nat) (l0_1 : List Int) (r1 : Int) (r2 : Int) (w : World) (hr0_0 : Kd.C (Kd.int .i64) w A0_0 l0_0.length l0_0) (hc0_0 : l0_0.length ≤ c0_0) (hr0_1 : Kd.C (Kd.int .i64) w A0_1 l0_1.length l0_1) (hc0_1 : l0_1.length ≤ c0_1) (h : split_Way.f k l0_0 l0_1 = some (r1, r2)) :
    Calls Try.prog 19 #[.agg #[.slice A0_0 l0_0.length c0_0, .slice A0_1 l0_1.length c0_1]] w fun e w' => e = .returned (.tuple #[.int .i64 r1, .int .i64 r2]) ∧ Below w.heap.size w w' := by
  have hu24 := Try.underlying24
  have HR0_0 := Aside0.mk hr0_0
  have HC0_0 := Aside0.mk hc0_0
  clear hr0_0 hc0_0
  have HR0_1 := Aside0.mk hr0_1
  have HC0_1 := Aside0.mk hc0_1
  clear hr0_1 hc0_1
  have HB := Aside0.mk (Below.refl w.heap.size w)
  have H : ((split_Check.f k l0_0 l0_1 (l0_0.length : Int)).bind fun t182 => (if t182 = 0 then (split_Way.l0 k 0 l0_0 (l0_0.length : Int) 0) else (some (0, 180)))) = some (r1, r2) := h
  clear h
  replace H := Option.bind_eq_some_iff.mp H
  obtain ⟨t182, A20, H⟩ := H
  replace H : (if t182 = 0 then (split_Way.l0 k 0 l0_0 (l0_0.length : Int) 0) else (some (0, 180))) = some (r1, r2) := H
  have A2 := Aside0.mk A20
  clear A20
  by_cases c3 : t182 = 0
  · rw [if_pos c3] at H
    have c3b0 : (t182 == 0) = true := beq_iff_eq.mpr c3
    have c3b1 : (t182 != 0) = false := bne_eq_false_iff_eq.mpr c3
    clear c3
    have H' := Aside0.mk H
    clear H
    go_enter Try.func19, Try.ntmps19
    go_wp2_with (first | ((with_reducible refine gate_dst (N := 1) rfl ?_); refine box_event ?hg (N := 1) ?hd (cs := #[.slice A0_0 l0_0.length c0_0, .slice A0_1 l0_1.length c0_1]) (t := 24) ?hr ?_; (case hd => rfl); (case hg => rfl); (case hr => first | (go_simp; done) | (go_simp; rfl)); intro gb181 hg w4 hbox hb; have n0_ := Aside0.mk (below_step (by repeat (first | (with_reducible first | exact HB.out | apply below_alloc | apply pw_below_drewN | apply below_drew1) | exact HB.out)) hb); have n1_ := Aside0.mk (hbox); have n2_ := Aside0.mk ((by rw [hg]; exact (below_size (by repeat (first | (with_reducible first | exact HB.out | apply below_alloc | apply pw_below_drewN | apply below_drew1) | exact HB.out))) : w.heap.size ≤ gb181)); have n3_ := Aside0.mk ((by rw [hg]; exact (below_size (by repeat (first | (with_reducible first | exact HB.out | apply below_alloc | apply pw_below_drewN | apply below_drew1) | exact HB.out))) : w.heap.size ≤ gb181)); clear HB; have HB := n0_; have BK181 := n1_; have GW181 := n2_; have GE181 := n3_; clear n0_ n1_ n2_ n3_; clear hb hbox hg; have hcz5_0 : w4.cell? ⟨gb181, 0, none⟩ = some (.slice A0_0 l0_0.length c0_0) := (blk_cell BK181.out 0).trans rfl; have hcz5_1 : w4.cell? ⟨gb181, 1, none⟩ = some (.slice A0_1 l0_1.length c0_1) := (blk_cell BK181.out 1).trans rfl; have hfz5_0 := blk_frozen BK181.out 0; have hfz5_1 := blk_frozen BK181.out 1) | ((with_reducible refine gate_callee (f := 17) rfl ?_); refine goesL_ (some 11) rfl rfl Try.func17 (by kernel_rfl) rfl #[.agg #[.slice A0_0 l0_0.length c0_0, .slice A0_1 l0_1.length c0_1], .int .i64 (l0_0.length : Int)] rfl (by (try simp only [List.map_toArray, List.map_cons, List.map_nil]); first | done | rfl | (simp only [List.length_drop, List.length_take]; rfl)) ?_; (with_reducible refine (split_Check.calls k _ _ l0_0 _ _ l0_1 (l0_0.length : Int) t182 _ ?side1 ?side2 ?side3 ?side4 A2.out).mono ?_); (case side1 => repeat (first | exact (Kd.C_below HR0_0.out HB.out) | (with_reducible refine Kd.C_alloc ?_ _) | (with_reducible refine Kd.C_drewN ?_ _) | (with_reducible refine Kd.C_drew ?_))); (case side2 => exact HC0_0.out); (case side3 => repeat (first | exact (Kd.C_below HR0_1.out HB.out) | (with_reducible refine Kd.C_alloc ?_ _) | (with_reducible refine Kd.C_drewN ?_ _) | (with_reducible refine Kd.C_drew ?_))); (case side4 => exact HC0_1.out); rintro e w6 ⟨rfl, hb⟩; refine ⟨_, rfl, ?_⟩; have n0_ := Aside0.mk (blk_below (g := gb181) (o := .cells #[.slice A0_0 l0_0.length c0_0, .slice A0_1 l0_1.length c0_1] 24 (0, 0)) (by (with_reducible repeat (first | refine blk_drewN ?_ _ | refine blk_drew ?_ | refine blk_alloc ?_ _)); exact BK181.out) hb); have n1_ := Aside0.mk (below_step (by repeat (first | (with_reducible first | exact HB.out | apply below_alloc | apply pw_below_drewN | apply below_drew1 | refine below_set ?_ GE181.out) | exact HB.out)) hb); clear BK181; clear HB; have BK181 := n0_; have HB := n1_; clear n0_ n1_; (try clear hb); (try clear hb2); (try clear hk); (try clear hi); have hcz7_0 : w6.cell? ⟨gb181, 0, none⟩ = some (.slice A0_0 l0_0.length c0_0) := (blk_cell BK181.out 0).trans rfl; have hcz7_1 : w6.cell? ⟨gb181, 1, none⟩ = some (.slice A0_1 l0_1.length c0_1) := (blk_cell BK181.out 1).trans rfl; have hfz7_0 := blk_frozen BK181.out 0; have hfz7_1 := blk_frozen BK181.out 1))
    go_loopg [4, 16] k (fun kq v4 v16 w' => ∃ (x4_1 : Int) (x16_1 : Int), v4 = .int .i64 x4_1 ∧ v16 = .int .i64 x16_1 ∧ Aside0 (split_Way.l0 kq x4_1 l0_0 (l0_0.length : Int) x16_1 = some (r1, r2)) ∧ Aside0 (kq ≤ k) ∧ Aside0 (w'.heap[gb181]? = some (.cells #[(.slice A0_0 l0_0.length c0_0), (.slice A0_1 l0_1.length c0_1)] 24 (0, 0))) ∧ Aside0 (Below w.heap.size w w'))
    case atStart => exact ⟨(0), (0), (by first | rfl | (simp; done) | (simp [*]; done)), (by first | rfl | (simp; done) | (simp [*]; done)), H', ⟨Nat.le_refl _⟩, ⟨by (with_reducible repeat (first | refine blk_drewN ?_ _ | refine blk_drew ?_ | refine blk_alloc ?_ _)); exact BK181.out⟩, ⟨by repeat (first | (with_reducible first | exact HB.out | apply below_alloc | apply pw_below_drewN | apply below_drew1 | refine below_set ?_ GE181.out) | exact HB.out)⟩⟩
    case round =>
      clear H'
      try clear c1
      try clear p2
      try clear c3
      try clear c3b0
      try clear c3b1
      try clear hcz5_0
      try clear hcz5_1
      try clear hcz7_0
      try clear hcz7_1
      try clear hfz5_0
      try clear hfz5_1
      try clear hfz7_0
      try clear hfz7_1
      obtain ⟨x4_1, x16_1, rfl, rfl, HA, HK1, BK181, HB⟩ := hrel
      cases gk with
      | zero => exact absurd HA.out (by simp [split_Way.l0])
      | succ k1 =>
        have H := HA.out
        clear HA
        simp only [split_Way.l0] at H
        by_cases c8 : x16_1 < (l0_0.length : Int)
        · rw [if_pos c8] at H
          have c8b0 : decide (x16_1 < (l0_0.length : Int)) = true := decide_eq_true c8
          clear c8
          by_cases c9 : 0 ≤ x16_1
          · rw [if_pos c9] at H
            have c9b0 : decide (0 ≤ x16_1) = true := decide_eq_true c9
            clear c9
            by_cases c10 : x16_1 < (l0_0.length : Int)
            · rw [if_pos c10] at H
              have c10b0 : decide (x16_1 < (l0_0.length : Int)) = true := decide_eq_true c10
              clear c10
              have H' := Aside0.mk H
              clear H
              have p183 : 0 ≤ (x16_1 : Int) := of_decide_eq_true (by first | (with_reducible assumption) | assumption)
              have q183 : x16_1 < (l0_0.length : Int) := of_decide_eq_true (by first | (with_reducible assumption) | assumption)
              obtain ⟨ad183, e183, hx183_0⟩ := Kd.at_int HR0_0.out x16_1 p183 q183
              cases e183
              replace hx183_0 := (HB.out.cell (World.block_lt_of_cell? w _ hx183_0)).trans hx183_0
              replace p183 := eq_true p183
              replace q183 := eq_true q183
              go_wp2
              go_roundg k1
              case measure => have := HK1.out; omega
              case rel => exact ⟨(wrap64 (x4_1 + (rd l0_0 x16_1))), (wrap64 (x16_1 + 1)), (by first | rfl | (simp; done) | (simp [*]; done)), (by first | rfl | (simp; done) | (simp [*]; done)), H', ⟨by have := HK1.out; omega⟩, ⟨by (with_reducible repeat (first | refine blk_drewN ?_ _ | refine blk_drew ?_ | refine blk_alloc ?_ _)); exact BK181.out⟩, ⟨by repeat (first | (with_reducible first | exact HB.out | apply below_alloc | apply pw_below_drewN | apply below_drew1 | refine below_set ?_ GE181.out) | exact HB.out)⟩⟩
            · rw [if_neg c10] at H
              exact absurd H (by simp)
          · rw [if_neg c9] at H
            exact absurd H (by simp)
        · rw [if_neg c8] at H
          have c8b0 : decide (x16_1 < (l0_0.length : Int)) = false := decide_eq_false c8
          clear c8
          simp only [Option.some.injEq, Prod.mk.injEq] at H
          obtain ⟨rfl, rfl⟩ := H
          go_wp2
          go_ret2
          exact ⟨by first | rfl | (simp [errW_none, errW_some] <;> rfl) | (simp [*, errW_none, errW_some] <;> rfl), by repeat (first | (with_reducible first | exact HB.out | apply below_alloc | apply pw_below_drewN | apply below_drew1 | refine below_set ?_ GE181.out) | exact HB.out)⟩
  · rw [if_neg c3] at H
    have c3b0 : (t182 == 0) = false := beq_eq_false_iff_ne.mpr c3
    have c3b1 : (t182 != 0) = true := bne_iff_ne.mpr c3
    simp only [Option.some.injEq, Prod.mk.injEq] at H
    obtain ⟨rfl, rfl⟩ := H
    go_enter Try.func19, Try.ntmps19
    go_wp2_with (first | ((with_reducible refine gate_dst (N := 1) rfl ?_); refine box_event ?hg (N := 1) ?hd (cs := #[.slice A0_0 l0_0.length c0_0, .slice A0_1 l0_1.length c0_1]) (t := 24) ?hr ?_; (case hd => rfl); (case hg => rfl); (case hr => first | (go_simp; done) | (go_simp; rfl)); intro gb181 hg w11 hbox hb; have n0_ := Aside0.mk (below_step (by repeat (first | (with_reducible first | exact HB.out | apply below_alloc | apply pw_below_drewN | apply below_drew1) | exact HB.out)) hb); have n1_ := Aside0.mk (hbox); have n2_ := Aside0.mk ((by rw [hg]; exact (below_size (by repeat (first | (with_reducible first | exact HB.out | apply below_alloc | apply pw_below_drewN | apply below_drew1) | exact HB.out))) : w.heap.size ≤ gb181)); have n3_ := Aside0.mk ((by rw [hg]; exact (below_size (by repeat (first | (with_reducible first | exact HB.out | apply below_alloc | apply pw_below_drewN | apply below_drew1) | exact HB.out))) : w.heap.size ≤ gb181)); clear HB; have HB := n0_; have BK181 := n1_; have GW181 := n2_; have GE181 := n3_; clear n0_ n1_ n2_ n3_; clear hb hbox hg; have hcz12_0 : w11.cell? ⟨gb181, 0, none⟩ = some (.slice A0_0 l0_0.length c0_0) := (blk_cell BK181.out 0).trans rfl; have hcz12_1 : w11.cell? ⟨gb181, 1, none⟩ = some (.slice A0_1 l0_1.length c0_1) := (blk_cell BK181.out 1).trans rfl; have hfz12_0 := blk_frozen BK181.out 0; have hfz12_1 := blk_frozen BK181.out 1) | ((with_reducible refine gate_callee (f := 17) rfl ?_); refine goesL_ (some 11) rfl rfl Try.func17 (by kernel_rfl) rfl #[.agg #[.slice A0_0 l0_0.length c0_0, .slice A0_1 l0_1.length c0_1], .int .i64 (l0_0.length : Int)] rfl (by (try simp only [List.map_toArray, List.map_cons, List.map_nil]); first | done | rfl | (simp only [List.length_drop, List.length_take]; rfl)) ?_; (with_reducible refine (split_Check.calls k _ _ l0_0 _ _ l0_1 (l0_0.length : Int) t182 _ ?side1 ?side2 ?side3 ?side4 A2.out).mono ?_); (case side1 => repeat (first | exact (Kd.C_below HR0_0.out HB.out) | (with_reducible refine Kd.C_alloc ?_ _) | (with_reducible refine Kd.C_drewN ?_ _) | (with_reducible refine Kd.C_drew ?_))); (case side2 => exact HC0_0.out); (case side3 => repeat (first | exact (Kd.C_below HR0_1.out HB.out) | (with_reducible refine Kd.C_alloc ?_ _) | (with_reducible refine Kd.C_drewN ?_ _) | (with_reducible refine Kd.C_drew ?_))); (case side4 => exact HC0_1.out); rintro e w13 ⟨rfl, hb⟩; refine ⟨_, rfl, ?_⟩; have n0_ := Aside0.mk (blk_below (g := gb181) (o := .cells #[.slice A0_0 l0_0.length c0_0, .slice A0_1 l0_1.length c0_1] 24 (0, 0)) (by (with_reducible repeat (first | refine blk_drewN ?_ _ | refine blk_drew ?_ | refine blk_alloc ?_ _)); exact BK181.out) hb); have n1_ := Aside0.mk (below_step (by repeat (first | (with_reducible first | exact HB.out | apply below_alloc | apply pw_below_drewN | apply below_drew1 | refine below_set ?_ GE181.out) | exact HB.out)) hb); clear BK181; clear HB; have BK181 := n0_; have HB := n1_; clear n0_ n1_; (try clear hb); (try clear hb2); (try clear hk); (try clear hi)))
    go_ret2
    exact ⟨by first | rfl | (simp [errW_none, errW_some] <;> rfl) | (simp [*, errW_none, errW_some] <;> rfl), by repeat (first | (with_reducible first | exact HB.out | apply below_alloc | apply pw_below_drewN | apply below_drew1 | refine below_set ?_ GE181.out) | exact HB.out)⟩

end Go.Proofs.Ytlidbaejhmamjaa.PB

namespace Go.Proofs.Ytlidbaejhmamjaa.PB
open Go.RowKit Go.Proofs.YtlidbaejhmamjaaW.PrintWords Go.Proofs.YtlidbaejhmamjaaW.PrintLast Go.Proofs.YtlidbaejhmamjaaW.PrintMore
attribute [local go_sem] max2_int min2_int max_two min_two max_three min_three max_four min_four   -- for this text's walks alone
set_option linter.unusedVariables false
set_option linter.unusedSimpArgs false

/-! ### slices_Max_int_int: function 41 -/
mutual
def slices_Max_int_int.j0 : Nat → List Int → Option (Int)
  | 0, _ => none
  | k + 1, x0 => if 0 < (x0.length : Int) then (slices_Max_int_int.l0 k x0 (rd x0 0) 1) else (none)
def slices_Max_int_int.l0 : Nat → List Int → Int → Int → Option (Int)
  | 0, _, _, _ => none
  | k + 1, x0, x3, x4 => if x4 < (x0.length : Int) then (if 0 ≤ x4 then (slices_Max_int_int.l0 k x0 (mx x3 (rd x0 x4)) (wrap64 (x4 + 1))) else (none)) else (some x3)
end
def slices_Max_int_int.f (k : Nat) (l0 : List Int) : Option (Int) := if (l0.length : Int) < 1 then (slices_Max_int_int.j0 k l0) else (slices_Max_int_int.j0 k l0)
theorem slices_Max_int_int.mono_l : ∀ k, (∀ y0, LeO (slices_Max_int_int.j0 k y0) (slices_Max_int_int.j0 (k + 1) y0)) ∧ (∀ y0 y1 y2, LeO (slices_Max_int_int.l0 k y0 y1 y2) (slices_Max_int_int.l0 (k + 1) y0 y1 y2))
  | 0 => ⟨fun _ r h => by simp [slices_Max_int_int.j0] at h, fun _ _ _ r h => by simp [slices_Max_int_int.l0] at h⟩
  | k + 1 => by
    obtain ⟨ih0, ih1⟩ := slices_Max_int_int.mono_l k
    refine ⟨?_, ?_⟩
    · intro y0
      unfold slices_Max_int_int.j0
      repeat' first
      | (with_reducible exact ih0 _)
      | (with_reducible exact ih1 _ _ _)
      | (with_reducible exact LeO.refl _)
      | (with_reducible exact LeO.none _)
      | (with_reducible refine LeO.ite ?_ ?_)
      | (with_reducible refine LeO.bind ?_ (fun _ => ?_))
      | exact ih0 _
      | exact ih1 _ _ _
      | exact LeO.none _
      | refine LeO.ite ?_ ?_
      | refine LeO.bind ?_ (fun _ => ?_)
    · intro y0 y1 y2
      unfold slices_Max_int_int.l0
      repeat' first
      | (with_reducible exact ih0 _)
      | (with_reducible exact ih1 _ _ _)
      | (with_reducible exact LeO.refl _)
      | (with_reducible exact LeO.none _)
      | (with_reducible refine LeO.ite ?_ ?_)
      | (with_reducible refine LeO.bind ?_ (fun _ => ?_))
      | exact ih0 _
      | exact ih1 _ _ _
      | exact LeO.none _
      | refine LeO.ite ?_ ?_
      | refine LeO.bind ?_ (fun _ => ?_)
theorem slices_Max_int_int.mono : ∀ a0 k, LeO (slices_Max_int_int.f k a0) (slices_Max_int_int.f (k + 1) a0) := by
  intro a0 k
  obtain ⟨ih0, ih1⟩ := slices_Max_int_int.mono_l k
  unfold slices_Max_int_int.f
  repeat' first
      | (with_reducible exact ih0 _)
      | (with_reducible exact ih1 _ _ _)
      | (with_reducible exact LeO.refl _)
      | (with_reducible exact LeO.none _)
      | (with_reducible refine LeO.ite ?_ ?_)
      | (with_reducible refine LeO.bind ?_ (fun _ => ?_))
      | exact ih0 _
      | exact ih1 _ _ _
      | exact LeO.none _
      | refine LeO.ite ?_ ?_
      | refine LeO.bind ?_ (fun _ => ?_)
set_option maxHeartbeats 8000000 in
set_option maxRecDepth 100000 in
theorem slices_Max_int_int.calls (k : Nat) (A0 : Option Addr) (c0 : Nat) (l0 : List Int) (r : Int) (w : World) (hr0 : Kd.C (Kd.int .i64) w A0 l0.length l0) (hc0 : l0.length ≤ c0) (h : slices_Max_int_int.f k l0 = some r) :
    Calls Try.prog 41 #[.slice A0 l0.length c0] w fun e w' => e = .returned (.int .i64 r) ∧ Below w.heap.size w w' := by
  have HR0 := Aside0.mk hr0
  have HC0 := Aside0.mk hc0
  clear hr0 hc0
  have HB := Aside0.mk (Below.refl w.heap.size w)
  have H : (if (l0.length : Int) < 1 then (slices_Max_int_int.j0 k l0) else (slices_Max_int_int.j0 k l0)) = some r := h
  clear h
  have HC2 := Aside0.mk H
  clear H
  go_enter Try.func41, Try.ntmps41
  go_upto_if 7 with (fail)
  go_cut [] (fun wc => ∃ (kq : Nat), Aside0 (slices_Max_int_int.j0 kq l0 = some r) ∧ Aside0 (kq ≤ k) ∧ Aside0 (Below w.heap.size w wc))
  case first =>
    have H := HC2.out
    clear HC2
    by_cases c3 : (l0.length : Int) < 1
    · rw [if_pos c3] at H
      exfalso
      cases k with
      | zero => exact absurd H (by simp [slices_Max_int_int.j0])
      | succ k => simp only [slices_Max_int_int.j0] at H; rw [if_neg (by omega)] at H; exact absurd H (by simp)
    · rw [if_neg c3] at H
      have c3b0 : decide ((l0.length : Int) < 1) = false := decide_eq_false c3
      have c3b1 : decide (l0.length < 1) = false := decide_eq_false (by omega)
      clear c3
      (first | rw [c3b0] | (simp only [i64_w, i32_w]; rw [c3b0]) | skip)
      have H' := Aside0.mk H
      clear H
      go_wp2
      go_meet
      case rel => exact ⟨_, H', ⟨by first | omega | exact Nat.le_refl _⟩, ⟨by repeat (first | (with_reducible first | exact HB.out | apply below_alloc | apply pw_below_drewN | apply below_drew1) | exact HB.out)⟩⟩
  case rest =>
    clear HC2
    try clear p2
    try clear c3
    try clear c3b0
    try clear c3b1
    obtain ⟨kq, HA, HJ1, HB⟩ := hcut
    cases kq with
    | zero => exact absurd HA.out (by simp [slices_Max_int_int.j0])
    | succ kj1 =>
      have H := HA.out
      clear HA
      simp only [slices_Max_int_int.j0] at H
      by_cases c4 : 0 < (l0.length : Int)
      · rw [if_pos c4] at H
        have c4b0 : decide (0 < (l0.length : Int)) = true := decide_eq_true c4
        have c4b1 : decide (0 < l0.length) = true := decide_eq_true (by omega)
        clear c4
        have H' := Aside0.mk H
        clear H
        have p184 : 0 ≤ (0 : Int) := (by omega)
        have q184 : 0 < (l0.length : Int) := of_decide_eq_true (by first | (with_reducible assumption) | assumption)
        obtain ⟨ad184, e184, hx184_0⟩ := Kd.at_int HR0.out 0 p184 q184
        cases e184
        have qi184 : (0 < l0.length) = True := eq_true (by omega)
        (try rw [show ((0 : Int)).toNat = 0 from rfl] at hx184_0)
        (try rw [Addr.add_zero'] at hx184_0)
        replace hx184_0 := (HB.out.cell (World.block_lt_of_cell? w _ hx184_0)).trans hx184_0
        replace p184 := eq_true p184
        replace q184 := eq_true q184
        go_wp2
        go_loopg [3, 4] kj1 (fun kq v3 v4 w' => ∃ (x3_2 : Int) (x4_2 : Int), v3 = .int .i64 x3_2 ∧ v4 = .int .i64 x4_2 ∧ Aside0 (slices_Max_int_int.l0 kq l0 x3_2 x4_2 = some r) ∧ Aside0 (kq ≤ kj1) ∧ Aside0 (Below w.heap.size w w'))
        case atStart => exact ⟨(rd l0 0), (1), (by first | rfl | (simp; done) | (simp [*]; done)), (by first | rfl | (simp; done) | (simp [*]; done)), H', ⟨Nat.le_refl _⟩, ⟨by repeat (first | (with_reducible first | exact HB.out | apply below_alloc | apply pw_below_drewN | apply below_drew1) | exact HB.out)⟩⟩
        case round =>
          clear H'
          try clear p1
          try clear q1
          try clear hx1
          try clear qi1
          try clear p2
          try clear c3
          try clear c3b0
          try clear c3b1
          try clear c4
          try clear c4b0
          try clear c4b1
          try clear hx184_0
          try clear p184
          try clear p2
          try clear q184
          obtain ⟨x3_2, x4_2, rfl, rfl, HA, HK2, HB⟩ := hrel
          cases gk with
          | zero => exact absurd HA.out (by simp [slices_Max_int_int.l0])
          | succ k2 =>
            have H := HA.out
            clear HA
            simp only [slices_Max_int_int.l0] at H
            by_cases c5 : x4_2 < (l0.length : Int)
            · rw [if_pos c5] at H
              have c5b0 : decide (x4_2 < (l0.length : Int)) = true := decide_eq_true c5
              clear c5
              by_cases c6 : 0 ≤ x4_2
              · rw [if_pos c6] at H
                have c6b0 : decide (0 ≤ x4_2) = true := decide_eq_true c6
                clear c6
                obtain ⟨ji7, hji7⟩ : ∃ j_ : Int, (mx x3_2 (rd l0 x4_2)) = j_ := ⟨_, rfl⟩
                replace H : (slices_Max_int_int.l0 k2 l0 ji7 (wrap64 (x4_2 + 1))) = some r := by first | (rw [hji7] at H; exact H) | (simp only [hji7] at H ⊢; exact H)
                have hji7_ : (if x3_2 < (rd l0 x4_2) then (rd l0 x4_2) else x3_2) = ji7 := hji7
                have H' := Aside0.mk H
                clear H
                have p185 : 0 ≤ (x4_2 : Int) := of_decide_eq_true (by first | (with_reducible assumption) | assumption)
                have q185 : x4_2 < (l0.length : Int) := of_decide_eq_true (by first | (with_reducible assumption) | assumption)
                obtain ⟨ad185, e185, hx185_0⟩ := Kd.at_int HR0.out x4_2 p185 q185
                obtain rfl : ad184 = ad185 := (by injection e185)
                replace hx185_0 := (HB.out.cell (World.block_lt_of_cell? w _ hx185_0)).trans hx185_0
                replace p185 := eq_true p185
                replace q185 := eq_true q185
                go_wp2
                go_roundg k2
                case measure => have := HJ1.out; have := HK2.out; omega
                case rel => exact ⟨(ji7), (wrap64 (x4_2 + 1)), (by first | rfl | (simp; done) | (simp only [← hji7] <;> (first | rfl | simp)) | (simp [*]; done)), (by first | rfl | (simp; done) | (simp [*]; done)), H', ⟨by have := HJ1.out; have := HK2.out; omega⟩, ⟨by repeat (first | (with_reducible first | exact HB.out | apply below_alloc | apply pw_below_drewN | apply below_drew1) | exact HB.out)⟩⟩
              · rw [if_neg c6] at H
                exact absurd H (by simp)
            · rw [if_neg c5] at H
              have c5b0 : decide (x4_2 < (l0.length : Int)) = false := decide_eq_false c5
              clear c5
              obtain rfl := Option.some.inj H
              go_wp2
              go_ret
              exact ⟨by first | rfl | (simp [errW_none, errW_some] <;> rfl) | (simp [*, errW_none, errW_some] <;> rfl), by repeat (first | (with_reducible first | exact HB.out | apply below_alloc | apply pw_below_drewN | apply below_drew1) | exact HB.out)⟩
      · rw [if_neg c4] at H
        exact absurd H (by simp)

end Go.Proofs.Ytlidbaejhmamjaa.PB

namespace Go.Proofs.Ytlidbaejhmamjaa.PB
open Go.RowKit Go.Proofs.YtlidbaejhmamjaaW.PrintWords Go.Proofs.YtlidbaejhmamjaaW.PrintLast Go.Proofs.YtlidbaejhmamjaaW.PrintMore
attribute [local go_sem] max2_int min2_int max_two min_two max_three min_three max_four min_four   -- for this text's walks alone
set_option linter.unusedVariables false
set_option linter.unusedSimpArgs false

/-! ### split_Ends: function 21 -/
mutual
def split_Ends.l0 : Nat → List Int → Int → List Int → Int → Int → List Int → List Int → Option (List Int × Int)
  | 0, _, _, _, _, _, _, _ => none
  | k + 1, x1, x2, x25, x26, x27, x187000, x187001 => if x27 < x26 then (if 0 ≤ x27 then (if x27 < (x25.length : Int) then (if (rd x25 x27) < (-1) then (some (([] : List Int), 1)) else (if (rd x25 x27) > 1 then (some (([] : List Int), 1)) else (split_Ends.l0 k x1 x2 x25 x26 (wrap64 (x27 + 1)) x187000 x187001))) else (none)) else (none)) else (if x2 < 0 then (split_Ends.j1 k x1 x2 true x187000 x187001) else (if x2 > 8 then (split_Ends.j1 k x1 x2 true x187000 x187001) else (if (x187000.length : Int) > 0 then ((slices_Max_int_int.f k x187000).bind fun t189 => (split_Ends.j1 k x1 x2 (decide (x2 < t189)) x187000 x187001)) else (split_Ends.j1 k x1 x2 false x187000 x187001))))
def split_Ends.j1 : Nat → List Int → Int → Bool → List Int → List Int → Option (List Int × Int)
  | 0, _, _, _, _, _ => none
  | k + 1, x1, x2, x56, x187000, x187001 => if x56 = true then (some (([] : List Int), 1)) else (if 0 ≤ (x1.length : Int) then (if ((x1.length : Int) : Int).toNat ≤ 35184372088832 then ((split_parts.f k x187000 x187001).bind fun t193 => (split_Ends.l1 k x1 x2 (List.replicate ((x1.length : Int) : Int).toNat 0) t193 (t193.length : Int) 0)) else (none)) else (none))
def split_Ends.l1 : Nat → List Int → Int → List Int → List (S90) → Int → Int → Option (List Int × Int)
  | 0, _, _, _, _, _, _ => none
  | k + 1, x1, x2, x10, x61, x62, x63 => if x63 < x62 then (if 0 ≤ x63 then (if x63 < (x61.length : Int) then (if 0 ≤ x2 then (if x63 < (x1.length : Int) then (if 0 ≤ (wrap64 (x2 - ((rd_T90 x61 x63).f0))) then (if x63 < (x10.length : Int) then (split_Ends.l1 k x1 x2 (x10.set (x63 : Int).toNat (wrap64 ((shl .i64 (-1) x2) + (shl .i64 (wrap64 ((wrap64 ((wrap64 (2 * ((rd_T90 x61 x63).f1))) + 1)) + (rd x1 x63))) (wrap64 (x2 - ((rd_T90 x61 x63).f0))))))) x61 x62 (wrap64 (x63 + 1))) else (none)) else (none)) else (none)) else (none)) else (none)) else (none)) else (some (x10, 0))
end
def split_Ends.f (k : Nat) (l0_0 : List Int) (l0_1 : List Int) (l1 : List Int) (a2 : Int) : Option (List Int × Int) := (split_Check.f k l0_0 l0_1 (l0_0.length : Int)).bind fun t187 => (if t187 = 0 then (if (l1.length : Int) = (l0_0.length : Int) then (split_Ends.l0 k l1 a2 l1 (l1.length : Int) 0 l0_0 l0_1) else (some (([] : List Int), 63))) else (some (([] : List Int), 180)))
theorem split_Ends.mono_l : ∀ k, (∀ y0 y1 y2 y3 y4 y5 y6, LeO (split_Ends.l0 k y0 y1 y2 y3 y4 y5 y6) (split_Ends.l0 (k + 1) y0 y1 y2 y3 y4 y5 y6)) ∧ (∀ y0 y1 y2 y3 y4, LeO (split_Ends.j1 k y0 y1 y2 y3 y4) (split_Ends.j1 (k + 1) y0 y1 y2 y3 y4)) ∧ (∀ y0 y1 y2 y3 y4 y5, LeO (split_Ends.l1 k y0 y1 y2 y3 y4 y5) (split_Ends.l1 (k + 1) y0 y1 y2 y3 y4 y5))
  | 0 => ⟨fun _ _ _ _ _ _ _ r h => by simp [split_Ends.l0] at h, fun _ _ _ _ _ r h => by simp [split_Ends.j1] at h, fun _ _ _ _ _ _ r h => by simp [split_Ends.l1] at h⟩
  | k + 1 => by
    obtain ⟨ih0, ih1, ih2⟩ := split_Ends.mono_l k
    refine ⟨?_, ?_, ?_⟩
    · intro y0 y1 y2 y3 y4 y5 y6
      unfold split_Ends.l0
      repeat' first
      | (with_reducible exact ih0 _ _ _ _ _ _ _)
      | (with_reducible exact ih1 _ _ _ _ _)
      | (with_reducible exact ih2 _ _ _ _ _ _)
      | (with_reducible exact slices_Max_int_int.mono _ _)
      | (with_reducible exact split_Check.mono _ _ _ _)
      | (with_reducible exact split_parts.mono _ _ _)
      | (with_reducible exact LeO.refl _)
      | (with_reducible exact LeO.none _)
      | (with_reducible refine LeO.ite ?_ ?_)
      | (with_reducible refine LeO.bind ?_ (fun _ => ?_))
      | exact ih0 _ _ _ _ _ _ _
      | exact ih1 _ _ _ _ _
      | exact ih2 _ _ _ _ _ _
      | exact slices_Max_int_int.mono _ _
      | exact split_Check.mono _ _ _ _
      | exact split_parts.mono _ _ _
      | exact LeO.none _
      | refine LeO.ite ?_ ?_
      | refine LeO.bind ?_ (fun _ => ?_)
    · intro y0 y1 y2 y3 y4
      unfold split_Ends.j1
      repeat' first
      | (with_reducible exact ih0 _ _ _ _ _ _ _)
      | (with_reducible exact ih1 _ _ _ _ _)
      | (with_reducible exact ih2 _ _ _ _ _ _)
      | (with_reducible exact slices_Max_int_int.mono _ _)
      | (with_reducible exact split_Check.mono _ _ _ _)
      | (with_reducible exact split_parts.mono _ _ _)
      | (with_reducible exact LeO.refl _)
      | (with_reducible exact LeO.none _)
      | (with_reducible refine LeO.ite ?_ ?_)
      | (with_reducible refine LeO.bind ?_ (fun _ => ?_))
      | exact ih0 _ _ _ _ _ _ _
      | exact ih1 _ _ _ _ _
      | exact ih2 _ _ _ _ _ _
      | exact slices_Max_int_int.mono _ _
      | exact split_Check.mono _ _ _ _
      | exact split_parts.mono _ _ _
      | exact LeO.none _
      | refine LeO.ite ?_ ?_
      | refine LeO.bind ?_ (fun _ => ?_)
    · intro y0 y1 y2 y3 y4 y5
      unfold split_Ends.l1
      repeat' first
      | (with_reducible exact ih0 _ _ _ _ _ _ _)
      | (with_reducible exact ih1 _ _ _ _ _)
      | (with_reducible exact ih2 _ _ _ _ _ _)
      | (with_reducible exact slices_Max_int_int.mono _ _)
      | (with_reducible exact split_Check.mono _ _ _ _)
      | (with_reducible exact split_parts.mono _ _ _)
      | (with_reducible exact LeO.refl _)
      | (with_reducible exact LeO.none _)
      | (with_reducible refine LeO.ite ?_ ?_)
      | (with_reducible refine LeO.bind ?_ (fun _ => ?_))
      | exact ih0 _ _ _ _ _ _ _
      | exact ih1 _ _ _ _ _
      | exact ih2 _ _ _ _ _ _
      | exact slices_Max_int_int.mono _ _
      | exact split_Check.mono _ _ _ _
      | exact split_parts.mono _ _ _
      | exact LeO.none _
      | refine LeO.ite ?_ ?_
      | refine LeO.bind ?_ (fun _ => ?_)
theorem split_Ends.mono : ∀ a0 a1 a2 a3 k, LeO (split_Ends.f k a0 a1 a2 a3) (split_Ends.f (k + 1) a0 a1 a2 a3) := by
  intro a0 a1 a2 a3 k
  obtain ⟨ih0, ih1, ih2⟩ := split_Ends.mono_l k
  unfold split_Ends.f
  repeat' first
      | (with_reducible exact ih0 _ _ _ _ _ _ _)
      | (with_reducible exact ih1 _ _ _ _ _)
      | (with_reducible exact ih2 _ _ _ _ _ _)
      | (with_reducible exact slices_Max_int_int.mono _ _)
      | (with_reducible exact split_Check.mono _ _ _ _)
      | (with_reducible exact split_parts.mono _ _ _)
      | (with_reducible exact LeO.refl _)
      | (with_reducible exact LeO.none _)
      | (with_reducible refine LeO.ite ?_ ?_)
      | (with_reducible refine LeO.bind ?_ (fun _ => ?_))
      | exact ih0 _ _ _ _ _ _ _
      | exact ih1 _ _ _ _ _
      | exact ih2 _ _ _ _ _ _
      | exact slices_Max_int_int.mono _ _
      | exact split_Check.mono _ _ _ _
      | exact split_parts.mono _ _ _
      | exact LeO.none _
      | refine LeO.ite ?_ ?_
      | refine LeO.bind ?_ (fun _ => ?_)
def split_Ends.T17 : Bool × List (List Nat × List Nat) := (true, [([], []), ([], []), ([], []), ([2], [2]), ([], []), ([4], [4]), ([5], [5]), ([6], [6]), ([], []), ([], []), ([8, 9], [8, 9]), ([10], [10]), ([7, 11], [7, 11]), ([], []), ([], []), ([14], [14]), ([13, 15], [13, 15]), ([12, 16], [12, 16]), ([3, 17], [3, 17]), ([0, 1, 0, 1, 2, 3, 4, 5, 6, 7, 8, 9, 10, 11, 12, 13, 14, 15, 16, 17, 18], [0, 1]), ([19, 18, 0, 1, 2, 3, 4, 5, 6, 7, 8, 9, 10, 11, 12, 13, 14, 15, 16, 17, 18], [18, 19])])
def split_Ends.B17 : List Nat := [0, 0, 0, 4, 0, 16, 48, 112, 0, 0, 768, 1792, 4080, 0, 0, 16384, 57344, 131056, 262140, 524287, 1048575]
theorem split_Ends.tab17 : rtab .any (opsOf Try.f21 17) = split_Ends.T17 := by kernel_rfl
theorem split_Ends.bits17 : waitsOk split_Ends.T17.2 split_Ends.B17 = true := by kernel_rfl
set_option maxHeartbeats 3000000 in
set_option maxRecDepth 100000 in
theorem split_Ends.calls (k : Nat) (A0_0 : Option Addr) (c0_0 : Nat) (l0_0 : List Int) (A0_1 : Option Addr) (c0_1 : Nat) (l0_1 : List Int) (A1 : Option Addr) (c1 : Nat) (l1 : List Int) (a2 : Int) (r1 : List Int) (r2 : Int) (w : World) (hr0_0 : Kd.C (Kd.int .i64) w A0_0 l0_0.length l0_0) (hc0_0 : l0_0.length ≤ c0_0) (hr0_1 : Kd.C (Kd.int .i64) w A0_1 l0_1.length l0_1) (hc0_1 : l0_1.length ≤ c0_1) (hr1 : Kd.C (Kd.int .i64) w A1 l1.length l1) (hc1 : l1.length ≤ c1) (h : split_Ends.f k l0_0 l0_1 l1 a2 = some (r1, r2)) :
    Calls Try.prog 21 #[.agg #[.slice A0_0 l0_0.length c0_0, .slice A0_1 l0_1.length c0_1], .slice A1 l1.length c1, .int .i64 a2] w fun e w' => ∃ v0_ : Value, e = .returned (.tuple #[v0_, .int .i64 r2]) ∧ Kd.R (Kd.int .i64) 3 w' w.heap.size (fun _ => True) v0_ r1 ∧ Below w.heap.size w w' := by
  have hu24 := Try.underlying24
  have hu90 := Try.underlying90
  have HR0_0 := Aside0.mk hr0_0
  have HC0_0 := Aside0.mk hc0_0
  clear hr0_0 hc0_0
  have HR0_1 := Aside0.mk hr0_1
  have HC0_1 := Aside0.mk hc0_1
  clear hr0_1 hc0_1
  have HR1 := Aside0.mk hr1
  have HC1 := Aside0.mk hc1
  clear hr1 hc1
  have HB := Aside0.mk (Below.refl w.heap.size w)
  have H : ((split_Check.f k l0_0 l0_1 (l0_0.length : Int)).bind fun t187 => (if t187 = 0 then (if (l1.length : Int) = (l0_0.length : Int) then (split_Ends.l0 k l1 a2 l1 (l1.length : Int) 0 l0_0 l0_1) else (some (([] : List Int), 63))) else (some (([] : List Int), 180)))) = some (r1, r2) := h
  clear h
  replace H := Option.bind_eq_some_iff.mp H
  obtain ⟨t187, A40, H⟩ := H
  replace H : (if t187 = 0 then (if (l1.length : Int) = (l0_0.length : Int) then (split_Ends.l0 k l1 a2 l1 (l1.length : Int) 0 l0_0 l0_1) else (some (([] : List Int), 63))) else (some (([] : List Int), 180))) = some (r1, r2) := H
  have A4 := Aside0.mk A40
  clear A40
  by_cases c5 : t187 = 0
  · rw [if_pos c5] at H
    have c5b0 : (t187 == 0) = true := beq_iff_eq.mpr c5
    have c5b1 : (t187 != 0) = false := bne_eq_false_iff_eq.mpr c5
    clear c5
    by_cases c6 : (l1.length : Int) = (l0_0.length : Int)
    · rw [if_pos c6] at H
      have c6b0 : ((l1.length : Int) == (l0_0.length : Int)) = true := beq_iff_eq.mpr c6
      have c6b1 : ((l1.length : Int) != (l0_0.length : Int)) = false := bne_eq_false_iff_eq.mpr c6
      have c6b2 : (l1.length == l0_0.length) = true := by first | simpa using c6 | (simp at c6 ⊢; omega)
      clear c6
      have H' := Aside0.mk H
      clear H
      go_enter Try.func21, Try.ntmps21
      go_wp2_with (first | ((with_reducible refine gate_dst (N := 3) rfl ?_); (try (refine gate_guard (by rfl) ?_; dsimp only)); refine box_event ?hg (N := 3) ?hd (cs := #[.slice A0_0 l0_0.length c0_0, .slice A0_1 l0_1.length c0_1]) (t := 24) ?hr ?_; (case hd => rfl); (case hg => rfl); (case hr => first | (go_simp; done) | (go_simp; rfl)); intro gb186 hg w7 hbox hb; have n0_ := Aside0.mk (below_step (by repeat (first | (with_reducible first | exact HB.out | apply below_alloc | apply pw_below_drewN | apply below_drew1) | exact HB.out)) hb); have n1_ := Aside0.mk (hbox); have n2_ := Aside0.mk ((by rw [hg]; exact (below_size (by repeat (first | (with_reducible first | exact HB.out | apply below_alloc | apply pw_below_drewN | apply below_drew1) | exact HB.out))) : w.heap.size ≤ gb186)); have n3_ := Aside0.mk ((by rw [hg]; exact (below_size (by repeat (first | (with_reducible first | exact HB.out | apply below_alloc | apply pw_below_drewN | apply below_drew1) | exact HB.out))) : w.heap.size ≤ gb186)); clear HB; have HB := n0_; have BK186 := n1_; have GW186 := n2_; have GE186 := n3_; clear n0_ n1_ n2_ n3_; clear hb hbox hg; have hcz8_0 : w7.cell? ⟨gb186, 0, none⟩ = some (.slice A0_0 l0_0.length c0_0) := (blk_cell BK186.out 0).trans rfl; have hcz8_1 : w7.cell? ⟨gb186, 1, none⟩ = some (.slice A0_1 l0_1.length c0_1) := (blk_cell BK186.out 1).trans rfl; have hfz8_0 := blk_frozen BK186.out 0; have hfz8_1 := blk_frozen BK186.out 1) | ((with_reducible refine gate_callee (f := 17) rfl ?_); refine goesL_ (some 17) rfl rfl Try.func17 (by kernel_rfl) rfl #[.agg #[.slice A0_0 l0_0.length c0_0, .slice A0_1 l0_1.length c0_1], .int .i64 (l0_0.length : Int)] rfl (by (try simp only [List.map_toArray, List.map_cons, List.map_nil]); first | done | rfl | (simp only [List.length_drop, List.length_take]; rfl)) ?_; (with_reducible refine (split_Check.calls k _ _ l0_0 _ _ l0_1 (l0_0.length : Int) t187 _ ?side1 ?side2 ?side3 ?side4 A4.out).mono ?_); (case side1 => repeat (first | exact (Kd.C_below HR0_0.out HB.out) | (with_reducible refine Kd.C_alloc ?_ _) | (with_reducible refine Kd.C_drewN ?_ _) | (with_reducible refine Kd.C_drew ?_))); (case side2 => exact HC0_0.out); (case side3 => repeat (first | exact (Kd.C_below HR0_1.out HB.out) | (with_reducible refine Kd.C_alloc ?_ _) | (with_reducible refine Kd.C_drewN ?_ _) | (with_reducible refine Kd.C_drew ?_))); (case side4 => exact HC0_1.out); rintro e w9 ⟨rfl, hb⟩; refine ⟨_, rfl, ?_⟩; have n0_ := Aside0.mk (blk_below (g := gb186) (o := .cells #[.slice A0_0 l0_0.length c0_0, .slice A0_1 l0_1.length c0_1] 24 (0, 0)) (by (with_reducible repeat (first | refine blk_drewN ?_ _ | refine blk_drew ?_ | refine blk_alloc ?_ _)); exact BK186.out) hb); have n1_ := Aside0.mk (below_step (by repeat (first | (with_reducible first | exact HB.out | apply below_alloc | apply pw_below_drewN | apply below_drew1 | refine below_set ?_ GE186.out) | exact HB.out)) hb); clear BK186; clear HB; have BK186 := n0_; have HB := n1_; clear n0_ n1_; (try clear hb); (try clear hb2); (try clear hk); (try clear hi); have hcz10_0 : w9.cell? ⟨gb186, 0, none⟩ = some (.slice A0_0 l0_0.length c0_0) := (blk_cell BK186.out 0).trans rfl; have hcz10_1 : w9.cell? ⟨gb186, 1, none⟩ = some (.slice A0_1 l0_1.length c0_1) := (blk_cell BK186.out 1).trans rfl; have hfz10_0 := blk_frozen BK186.out 0; have hfz10_1 := blk_frozen BK186.out 1))
      go_loopg [27] k (fun kq v27 w' => ∃ (x27_1 : Int), v27 = .int .i64 x27_1 ∧ Aside0 (split_Ends.l0 kq l1 a2 l1 (l1.length : Int) x27_1 l0_0 l0_1 = some (r1, r2)) ∧ Aside0 (kq ≤ k) ∧ Aside0 (w'.heap[gb186]? = some (.cells #[(.slice A0_0 l0_0.length c0_0), (.slice A0_1 l0_1.length c0_1)] 24 (0, 0))) ∧ Aside0 (Below w.heap.size w w'))
      case atStart => exact ⟨(0), (by first | rfl | (simp; done) | (simp [*]; done)), H', ⟨Nat.le_refl _⟩, ⟨by (with_reducible repeat (first | refine blk_drewN ?_ _ | refine blk_drew ?_ | refine blk_alloc ?_ _)); exact BK186.out⟩, ⟨by repeat (first | (with_reducible first | exact HB.out | apply below_alloc | apply pw_below_drewN | apply below_drew1 | refine below_set ?_ GE186.out) | exact HB.out)⟩⟩
      case round =>
        clear H'
        try clear c1
        try clear c2
        try clear p2
        try clear c5
        try clear c5b0
        try clear c5b1
        try clear c6
        try clear c6b0
        try clear c6b1
        try clear c6b2
        try clear hcz10_0
        try clear hcz10_1
        try clear hcz8_0
        try clear hcz8_1
        try clear hfz10_0
        try clear hfz10_1
        try clear hfz8_0
        try clear hfz8_1
        obtain ⟨x27_1, rfl, HA, HK1, BK186, HB⟩ := hrel
        cases gk with
        | zero => exact absurd HA.out (by simp [split_Ends.l0])
        | succ k1 =>
          have H := HA.out
          clear HA
          simp only [split_Ends.l0] at H
          by_cases c11 : x27_1 < (l1.length : Int)
          · rw [if_pos c11] at H
            have c11b0 : decide (x27_1 < (l1.length : Int)) = true := decide_eq_true c11
            clear c11
            by_cases c12 : 0 ≤ x27_1
            · rw [if_pos c12] at H
              have c12b0 : decide (0 ≤ x27_1) = true := decide_eq_true c12
              clear c12
              by_cases c13 : x27_1 < (l1.length : Int)
              · rw [if_pos c13] at H
                have c13b0 : decide (x27_1 < (l1.length : Int)) = true := decide_eq_true c13
                clear c13
                by_cases c14 : (rd l1 x27_1) < (-1)
                · rw [if_pos c14] at H
                  have c14b0 : decide ((rd l1 x27_1) < (-1)) = true := decide_eq_true c14
                  clear c14
                  simp only [Option.some.injEq, Prod.mk.injEq] at H
                  obtain ⟨rfl, rfl⟩ := H
                  have p188 : 0 ≤ (x27_1 : Int) := of_decide_eq_true (by first | (with_reducible assumption) | assumption)
                  have q188 : x27_1 < (l1.length : Int) := of_decide_eq_true (by first | (with_reducible assumption) | assumption)
                  obtain ⟨ad188, e188, hx188_0⟩ := Kd.at_int HR1.out x27_1 p188 q188
                  cases e188
                  replace hx188_0 := (HB.out.cell (World.block_lt_of_cell? w _ hx188_0)).trans hx188_0
                  replace p188 := eq_true p188
                  replace q188 := eq_true q188
                  go_wp2
                  go_ret2
                  exact ⟨_, by first | rfl | (simp [errW_none, errW_some] <;> rfl) | (simp [*, errW_none, errW_some] <;> rfl), by first | exact Kd.R_nil _ _ _ _ _ | exact Kd.N_nil _ _ _ _ _ | exact Kd.V_nil _ _ _ _ _ | exact Kd.Q_nil _ _ _ _ _ | exact Kd.S_nil _ _ _ _ _, by repeat (first | (with_reducible first | exact HB.out | apply below_alloc | apply pw_below_drewN | apply below_drew1 | refine below_set ?_ GE186.out) | exact HB.out)⟩
                · rw [if_neg c14] at H
                  have c14b0 : decide ((rd l1 x27_1) < (-1)) = false := decide_eq_false c14
                  clear c14
                  by_cases c15 : (rd l1 x27_1) > 1
                  · rw [if_pos c15] at H
                    have c15b0 : decide (1 < (rd l1 x27_1)) = true := decide_eq_true c15
                    clear c15
                    simp only [Option.some.injEq, Prod.mk.injEq] at H
                    obtain ⟨rfl, rfl⟩ := H
                    have p188 : 0 ≤ (x27_1 : Int) := of_decide_eq_true (by first | (with_reducible assumption) | assumption)
                    have q188 : x27_1 < (l1.length : Int) := of_decide_eq_true (by first | (with_reducible assumption) | assumption)
                    obtain ⟨ad188, e188, hx188_0⟩ := Kd.at_int HR1.out x27_1 p188 q188
                    cases e188
                    replace hx188_0 := (HB.out.cell (World.block_lt_of_cell? w _ hx188_0)).trans hx188_0
                    replace p188 := eq_true p188
                    replace q188 := eq_true q188
                    go_wp2
                    go_ret2
                    exact ⟨_, by first | rfl | (simp [errW_none, errW_some] <;> rfl) | (simp [*, errW_none, errW_some] <;> rfl), by first | exact Kd.R_nil _ _ _ _ _ | exact Kd.N_nil _ _ _ _ _ | exact Kd.V_nil _ _ _ _ _ | exact Kd.Q_nil _ _ _ _ _ | exact Kd.S_nil _ _ _ _ _, by repeat (first | (with_reducible first | exact HB.out | apply below_alloc | apply pw_below_drewN | apply below_drew1 | refine below_set ?_ GE186.out) | exact HB.out)⟩
                  · rw [if_neg c15] at H
                    have c15b0 : decide (1 < (rd l1 x27_1)) = false := decide_eq_false c15
                    clear c15
                    have H' := Aside0.mk H
                    clear H
                    have p188 : 0 ≤ (x27_1 : Int) := of_decide_eq_true (by first | (with_reducible assumption) | assumption)
                    have q188 : x27_1 < (l1.length : Int) := of_decide_eq_true (by first | (with_reducible assumption) | assumption)
                    obtain ⟨ad188, e188, hx188_0⟩ := Kd.at_int HR1.out x27_1 p188 q188
                    cases e188
                    replace hx188_0 := (HB.out.cell (World.block_lt_of_cell? w _ hx188_0)).trans hx188_0
                    replace p188 := eq_true p188
                    replace q188 := eq_true q188
                    go_wp2
                    go_roundg k1
                    case measure => have := HK1.out; omega
                    case rel => exact ⟨(wrap64 (x27_1 + 1)), (by first | rfl | (simp; done) | (simp [*]; done)), H', ⟨by have := HK1.out; omega⟩, ⟨by (with_reducible repeat (first | refine blk_drewN ?_ _ | refine blk_drew ?_ | refine blk_alloc ?_ _)); exact BK186.out⟩, ⟨by repeat (first | (with_reducible first | exact HB.out | apply below_alloc | apply pw_below_drewN | apply below_drew1 | refine below_set ?_ GE186.out) | exact HB.out)⟩⟩
              · rw [if_neg c13] at H
                exact absurd H (by simp)
            · rw [if_neg c12] at H
              exact absurd H (by simp)
          · rw [if_neg c11] at H
            have c11b0 : decide (x27_1 < (l1.length : Int)) = false := decide_eq_false c11
            clear c11
            have HC16 := Aside0.mk H
            clear H
            go_upto_region 11 with (fail)
            go_cut [56] (fun v56 wc => ∃ (kq : Nat) (x56_15 : Bool), v56 = .bool x56_15 ∧ Aside0 (split_Ends.j1 kq l1 a2 x56_15 l0_0 l0_1 = some (r1, r2)) ∧ Aside0 (kq ≤ k1) ∧ Aside0 (wc.heap[gb186]? = some (.cells #[(.slice A0_0 l0_0.length c0_0), (.slice A0_1 l0_1.length c0_1)] 24 (0, 0))) ∧ Aside0 (Below w.heap.size w wc))
            case first =>
              have H := HC16.out
              clear HC16
              by_cases c17 : a2 < 0
              · rw [if_pos c17] at H
                have c17b0 : decide (a2 < 0) = true := decide_eq_true c17
                clear c17
                (first | rw [c17b0] | (simp only [i64_w, i32_w]; rw [c17b0]) | skip)
                have H' := Aside0.mk H
                clear H
                go_wp2
                go_meet
                case rel => exact ⟨_, (true), (by first | rfl | (simp; done) | (simp [*]; done)), H', ⟨by have := HK1.out; first | omega | exact Nat.le_refl _⟩, ⟨by (with_reducible repeat (first | refine blk_drewN ?_ _ | refine blk_drew ?_ | refine blk_alloc ?_ _)); exact BK186.out⟩, ⟨by repeat (first | (with_reducible first | exact HB.out | apply below_alloc | apply pw_below_drewN | apply below_drew1 | refine below_set ?_ GE186.out) | exact HB.out)⟩⟩
              · rw [if_neg c17] at H
                have c17b0 : decide (a2 < 0) = false := decide_eq_false c17
                clear c17
                (first | rw [c17b0] | (simp only [i64_w, i32_w]; rw [c17b0]) | skip)
                by_cases c18 : a2 > 8
                · rw [if_pos c18] at H
                  have c18b0 : decide (8 < a2) = true := decide_eq_true c18
                  clear c18
                  have H' := Aside0.mk H
                  clear H
                  go_wp2
                  go_meet
                  case rel => exact ⟨_, (true), (by first | rfl | (simp; done) | (simp [*]; done)), H', ⟨by have := HK1.out; first | omega | exact Nat.le_refl _⟩, ⟨by (with_reducible repeat (first | refine blk_drewN ?_ _ | refine blk_drew ?_ | refine blk_alloc ?_ _)); exact BK186.out⟩, ⟨by repeat (first | (with_reducible first | exact HB.out | apply below_alloc | apply pw_below_drewN | apply below_drew1 | refine below_set ?_ GE186.out) | exact HB.out)⟩⟩
                · rw [if_neg c18] at H
                  have c18b0 : decide (8 < a2) = false := decide_eq_false c18
                  clear c18
                  by_cases c19 : (l0_0.length : Int) > 0
                  · rw [if_pos c19] at H
                    have c19b0 : decide (0 < (l0_0.length : Int)) = true := decide_eq_true c19
                    have c19b1 : decide (0 < l0_0.length) = true := decide_eq_true (by omega)
                    clear c19
                    replace H := Option.bind_eq_some_iff.mp H
                    obtain ⟨t189, A200, H⟩ := H
                    replace H : (split_Ends.j1 k1 l1 a2 (decide (a2 < t189)) l0_0 l0_1) = some (r1, r2) := H
                    have A20 := Aside0.mk A200
                    clear A200
                    have H' := Aside0.mk H
                    clear H
                    have hcz21_0 : wr.cell? ⟨gb186, 0, none⟩ = some (.slice A0_0 l0_0.length c0_0) := (blk_cell BK186.out 0).trans rfl
                    have hcz21_1 : wr.cell? ⟨gb186, 1, none⟩ = some (.slice A0_1 l0_1.length c0_1) := (blk_cell BK186.out 1).trans rfl
                    have hfz21_0 := blk_frozen BK186.out 0
                    have hfz21_1 := blk_frozen BK186.out 1
                    go_wp2_with (first | (go_at_call 41; (with_reducible refine (slices_Max_int_int.calls k1 _ _ l0_0 t189 _ ?side1 ?side2 A20.out).mono ?_); (case side1 => repeat (first | exact (Kd.C_below HR0_0.out HB.out) | (with_reducible refine Kd.C_alloc ?_ _) | (with_reducible refine Kd.C_drewN ?_ _) | (with_reducible refine Kd.C_drew ?_))); (case side2 => exact HC0_0.out); rintro e w22 ⟨rfl, hb⟩; have n0_ := Aside0.mk (blk_below (g := gb186) (o := .cells #[.slice A0_0 l0_0.length c0_0, .slice A0_1 l0_1.length c0_1] 24 (0, 0)) (by (with_reducible repeat (first | refine blk_drewN ?_ _ | refine blk_drew ?_ | refine blk_alloc ?_ _)); exact BK186.out) hb); have n1_ := Aside0.mk (below_step (by repeat (first | (with_reducible first | exact HB.out | apply below_alloc | apply pw_below_drewN | apply below_drew1 | refine below_set ?_ GE186.out) | exact HB.out)) hb); clear BK186; clear HB; have BK186 := n0_; have HB := n1_; clear n0_ n1_; (try clear hb); (try clear hb2); (try clear hk); (try clear hi)))
                    go_meet
                    case rel => exact ⟨_, (decide (a2 < t189)), (by first | rfl | (simp; done) | (simp [*]; done)), H', ⟨by have := HK1.out; first | omega | exact Nat.le_refl _⟩, ⟨by (with_reducible repeat (first | refine blk_drewN ?_ _ | refine blk_drew ?_ | refine blk_alloc ?_ _)); exact BK186.out⟩, ⟨by repeat (first | (with_reducible first | exact HB.out | apply below_alloc | apply pw_below_drewN | apply below_drew1 | refine below_set ?_ GE186.out) | exact HB.out)⟩⟩
                  · rw [if_neg c19] at H
                    have c19b0 : decide (0 < (l0_0.length : Int)) = false := decide_eq_false c19
                    have c19b1 : decide (0 < l0_0.length) = false := decide_eq_false (by omega)
                    clear c19
                    have H' := Aside0.mk H
                    clear H
                    have hcz23_0 : wr.cell? ⟨gb186, 0, none⟩ = some (.slice A0_0 l0_0.length c0_0) := (blk_cell BK186.out 0).trans rfl
                    have hcz23_1 : wr.cell? ⟨gb186, 1, none⟩ = some (.slice A0_1 l0_1.length c0_1) := (blk_cell BK186.out 1).trans rfl
                    have hfz23_0 := blk_frozen BK186.out 0
                    have hfz23_1 := blk_frozen BK186.out 1
                    go_wp2
                    go_meet
                    case rel => exact ⟨_, (false), (by first | rfl | (simp; done) | (simp [*]; done)), H', ⟨by have := HK1.out; first | omega | exact Nat.le_refl _⟩, ⟨by (with_reducible repeat (first | refine blk_drewN ?_ _ | refine blk_drew ?_ | refine blk_alloc ?_ _)); exact BK186.out⟩, ⟨by repeat (first | (with_reducible first | exact HB.out | apply below_alloc | apply pw_below_drewN | apply below_drew1 | refine below_set ?_ GE186.out) | exact HB.out)⟩⟩
            case rest =>
              clear HC16
              try clear c1
              try clear p1
              try clear q1
              try clear hx1
              try clear c2
              try clear p2
              try clear c5
              try clear c5b0
              try clear c5b1
              try clear c6
              try clear c6b0
              try clear c6b1
              try clear c6b2
              try clear p6
              try clear c11
              try clear c11b0
              try clear c12
              try clear c12b0
              try clear c13
              try clear c13b0
              try clear c14
              try clear c14b0
              try clear c15
              try clear c15b0
              try clear c17
              try clear c17b0
              try clear c18
              try clear c18b0
              try clear p18
              try clear q18
              try clear hx18
              try clear c19
              try clear c19b0
              try clear c19b1
              try clear c21
              try clear hcz10_0
              try clear hcz10_1
              try clear hcz21_0
              try clear hcz21_1
              try clear hcz23_0
              try clear hcz23_1
              try clear hcz8_0
              try clear hcz8_1
              try clear hfz10_0
              try clear hfz10_1
              try clear hfz21_0
              try clear hfz21_1
              try clear hfz23_0
              try clear hfz23_1
              try clear hfz8_0
              try clear hfz8_1
              try clear hx188_0
              try clear p188
              try clear p2
              try clear q188
              obtain ⟨kq, x56_15, rfl, HA, HJ15, BK186, HB⟩ := hcut
              cases kq with
              | zero => exact absurd HA.out (by simp [split_Ends.j1])
              | succ kj15 =>
                have H := HA.out
                clear HA
                simp only [split_Ends.j1] at H
                by_cases c24 : x56_15 = true
                · subst c24
                  have H1 : (some (([] : List Int), 1)) = some (r1, r2) := by rw [if_pos rfl] at H; exact H
                  clear H
                  have H := H1
                  clear H1
                  simp only [Option.some.injEq, Prod.mk.injEq] at H
                  obtain ⟨rfl, rfl⟩ := H
                  go_wp2
                  go_ret2
                  exact ⟨_, by first | rfl | (simp [errW_none, errW_some] <;> rfl) | (simp [*, errW_none, errW_some] <;> rfl), by first | exact Kd.R_nil _ _ _ _ _ | exact Kd.N_nil _ _ _ _ _ | exact Kd.V_nil _ _ _ _ _ | exact Kd.Q_nil _ _ _ _ _ | exact Kd.S_nil _ _ _ _ _, by repeat (first | (with_reducible first | exact HB.out | apply below_alloc | apply pw_below_drewN | apply below_drew1 | refine below_set ?_ GE186.out) | exact HB.out)⟩
                · replace c24 := Bool.eq_false_iff.mpr c24
                  subst c24
                  have H1 : (if 0 ≤ (l1.length : Int) then (if ((l1.length : Int) : Int).toNat ≤ 35184372088832 then ((split_parts.f kj15 l0_0 l0_1).bind fun t193 => (split_Ends.l1 kj15 l1 a2 (List.replicate ((l1.length : Int) : Int).toNat 0) t193 (t193.length : Int) 0)) else (none)) else (none)) = some (r1, r2) := by rw [if_neg (show ¬ (false = true) by decide)] at H; exact H
                  clear H
                  have H := H1
                  clear H1
                  by_cases c25 : 0 ≤ (l1.length : Int)
                  · rw [if_pos c25] at H
                    have c25b0 := eq_true c25
                    have c25b1 : decide (0 ≤ (l1.length : Int)) = true := decide_eq_true c25
                    clear c25
                    by_cases c26 : ((l1.length : Int) : Int).toNat ≤ 35184372088832
                    · rw [if_pos c26] at H
                      have c26b0 := eq_true c26
                      have c26b1 : decide (((l1.length : Int) : Int).toNat ≤ 35184372088832) = true := decide_eq_true c26
                      clear c26
                      obtain ⟨y190, hy190⟩ : ∃ y_ : List Int, y_ = (List.replicate ((l1.length : Int) : Int).toNat 0) := ⟨_, rfl⟩
                      replace H : ((split_parts.f kj15 l0_0 l0_1).bind fun t193 => (split_Ends.l1 kj15 l1 a2 y190 t193 (t193.length : Int) 0)) = some (r1, r2) := by first | (rw [hy190]; with_reducible exact H) | (have H2_ := (Option.bind_some _ _).symm.trans H; rw [hy190]; with_reducible exact H2_) | (have H2_ := (Option.bind_some _ _).symm.trans H; with_reducible exact H2_) | with_reducible exact H | (rw [hy190]; exact H) | exact H
                      have Ny190 := Aside0.mk hy190
                      clear hy190
                      replace H := Option.bind_eq_some_iff.mp H
                      obtain ⟨t193, A270, H⟩ := H
                      replace H : (split_Ends.l1 kj15 l1 a2 y190 t193 (t193.length : Int) 0) = some (r1, r2) := H
                      have A27 := Aside0.mk A270
                      clear A270
                      have H' := Aside0.mk H
                      clear H
                      go_wp2_with (first | ((with_reducible refine gate_dst (N := 59) rfl ?_); (try (refine gate_guard (by rfl) ?_; dsimp only)); refine Kd.R_make (Kd.int .i64) _ 3 rfl (N := 59) rfl 22 _ _ rfl (l1.length : Int) rfl rfl Try.underlying22 (.int .i64 0) 8 info3 rfl (by decide) (by omega) 0 (ok := fun _ => True) (okp := fun _ => True) rfl (fun _ hk => hk) trivial (of_decide_eq_true (by first | (with_reducible assumption) | assumption)) (Nat.le_trans (Nat.mul_le_mul_right _ (of_decide_eq_true (by first | (with_reducible assumption) | assumption) : (l1.length : Int).toNat ≤ 35184372088832)) (by omega)) (Below.refl _ _) (Nat.le_refl _) ?_; intro v191 w28 ho29 hb hg_ hnew_; clear hg_ hnew_; (first | rw [← Ny190.out] at ho29 | (simp only [Int.reduceToNat] at ho29; rw [← Ny190.out] at ho29)); have n0_ := Aside0.mk (Kd.R_lower ho29 (below_size (by repeat (first | (with_reducible first | exact HB.out | apply below_alloc | apply pw_below_drewN | apply below_drew1 | refine below_set ?_ GE186.out) | exact HB.out)))); have n1_ := Aside0.mk (blk_below (g := gb186) (o := .cells #[.slice A0_0 l0_0.length c0_0, .slice A0_1 l0_1.length c0_1] 24 (0, 0)) (by (with_reducible repeat (first | refine blk_drewN ?_ _ | refine blk_drew ?_ | refine blk_alloc ?_ _)); exact BK186.out) hb); have n2_ := Aside0.mk (below_step (by repeat (first | (with_reducible first | exact HB.out | apply below_alloc | apply pw_below_drewN | apply below_drew1 | refine below_set ?_ GE186.out) | exact HB.out)) hb); clear BK186; clear HB; have HO192 := n0_; have BK186 := n1_; have HB := n2_; clear n0_ n1_ n2_; clear hb ho29; have hcz30_0 : w28.cell? ⟨gb186, 0, none⟩ = some (.slice A0_0 l0_0.length c0_0) := (blk_cell BK186.out 0).trans rfl; have hcz30_1 : w28.cell? ⟨gb186, 1, none⟩ = some (.slice A0_1 l0_1.length c0_1) := (blk_cell BK186.out 1).trans rfl; have hfz30_0 := blk_frozen BK186.out 0; have hfz30_1 := blk_frozen BK186.out 1) | ((with_reducible refine gate_callee (f := 39) rfl ?_); refine goesL_ (some 61) rfl rfl Try.func39 (by kernel_rfl) rfl #[.agg #[.slice A0_0 l0_0.length c0_0, .slice A0_1 l0_1.length c0_1]] rfl (by (try simp only [List.map_toArray, List.map_cons, List.map_nil]); first | done | rfl | (simp only [List.length_drop, List.length_take]; rfl)) ?_; (with_reducible refine (split_parts.calls kj15 _ _ l0_0 _ _ l0_1 t193 _ ?side1 ?side2 ?side3 ?side4 A27.out).mono ?_); (case side1 => repeat (first | exact (Kd.C_below HR0_0.out HB.out) | (with_reducible refine Kd.C_alloc ?_ _) | (with_reducible refine Kd.C_drewN ?_ _) | (with_reducible refine Kd.C_drew ?_))); (case side2 => exact HC0_0.out); (case side3 => repeat (first | exact (Kd.C_below HR0_1.out HB.out) | (with_reducible refine Kd.C_alloc ?_ _) | (with_reducible refine Kd.C_drewN ?_ _) | (with_reducible refine Kd.C_drew ?_))); (case side4 => exact HC0_1.out); rintro e w31 ⟨v194, rfl, ho0, hb⟩; refine ⟨_, rfl, ?_⟩; have n0_ := Aside0.mk (Kd.R_below (by (with_reducible repeat (first | apply Kd.R_alloc | apply Kd.R_drewN | apply Kd.R_drew)); exact HO192.out) hb); have n1_ := Aside0.mk (Kd.R_lower ho0 (below_size (by repeat (first | (with_reducible first | exact HB.out | apply below_alloc | apply pw_below_drewN | apply below_drew1 | refine below_set ?_ GE186.out) | exact HB.out)))); have n2_ := Aside0.mk (blk_below (g := gb186) (o := .cells #[.slice A0_0 l0_0.length c0_0, .slice A0_1 l0_1.length c0_1] 24 (0, 0)) (by (with_reducible repeat (first | refine blk_drewN ?_ _ | refine blk_drew ?_ | refine blk_alloc ?_ _)); exact BK186.out) hb); have n3_ := Aside0.mk (below_step (by repeat (first | (with_reducible first | exact HB.out | apply below_alloc | apply pw_below_drewN | apply below_drew1 | refine below_set ?_ GE186.out) | exact HB.out)) hb); clear HO192; clear BK186; clear HB; have HO192 := n0_; have HO195 := n1_; have BK186 := n2_; have HB := n3_; clear n0_ n1_ n2_ n3_; (try clear hb); (try clear hb2); (try clear hk); (try clear hi); (try clear ho0); obtain ⟨Ao32, co32, eo32⟩ := Kd.R_slice HO195.out; subst eo32))
                      go_loopg [63] kj15 (fun kq v63 w' => ∃ (x10_3 : List Int) (x63_3 : Int), v63 = .int .i64 x63_3 ∧ Aside0 (split_Ends.l1 kq l1 a2 x10_3 t193 (t193.length : Int) x63_3 = some (r1, r2)) ∧ Aside0 (kq ≤ kj15) ∧ Aside0 (Kd.R (Kd.int .i64) 3 w' w.heap.size (fun _ => True) v191 x10_3) ∧ Aside0 (Kd.R k90 90 w' w.heap.size (fun _ => True) (.slice Ao32 t193.length co32) t193) ∧ Aside0 (w'.heap[gb186]? = some (.cells #[(.slice A0_0 l0_0.length c0_0), (.slice A0_1 l0_1.length c0_1)] 24 (0, 0))) ∧ Aside0 (Below w.heap.size w w'))
                      case atStart => exact ⟨(y190), (0), (by first | rfl | (simp; done) | (simp [*]; done)), H', ⟨Nat.le_refl _⟩, ⟨by (with_reducible repeat (first | apply Kd.R_alloc | apply Kd.R_drewN | apply Kd.R_drew)); exact HO192.out⟩, ⟨by (with_reducible repeat (first | apply Kd.R_alloc | apply Kd.R_drewN | apply Kd.R_drew)); exact HO195.out⟩, ⟨by (with_reducible repeat (first | refine blk_drewN ?_ _ | refine blk_drew ?_ | refine blk_alloc ?_ _)); exact BK186.out⟩, ⟨by repeat (first | (with_reducible first | exact HB.out | apply below_alloc | apply pw_below_drewN | apply below_drew1 | refine below_set ?_ GE186.out) | exact HB.out)⟩⟩
                      case round =>
                        clear H'
                        try clear c1
                        try clear p1
                        try clear q1
                        try clear hx1
                        try clear c2
                        try clear p2
                        try clear c3
                        try clear c5
                        try clear c5b0
                        try clear c5b1
                        try clear c6
                        try clear c6b0
                        try clear c6b1
                        try clear c6b2
                        try clear p6
                        try clear c11
                        try clear c11b0
                        try clear c12
                        try clear c12b0
                        try clear c13
                        try clear c13b0
                        try clear c14
                        try clear c14b0
                        try clear c15
                        try clear c15b0
                        try clear c17
                        try clear c17b0
                        try clear c18
                        try clear c18b0
                        try clear p18
                        try clear q18
                        try clear hx18
                        try clear c19
                        try clear c19b0
                        try clear c19b1
                        try clear c21
                        try clear c24
                        try clear c25
                        try clear c25b0
                        try clear c25b1
                        try clear c26
                        try clear c26b0
                        try clear c26b1
                        try clear hcz10_0
                        try clear hcz10_1
                        try clear hcz21_0
                        try clear hcz21_1
                        try clear hcz23_0
                        try clear hcz23_1
                        try clear hcz30_0
                        try clear hcz30_1
                        try clear hcz8_0
                        try clear hcz8_1
                        try clear hfz10_0
                        try clear hfz10_1
                        try clear hfz21_0
                        try clear hfz21_1
                        try clear hfz23_0
                        try clear hfz23_1
                        try clear hfz30_0
                        try clear hfz30_1
                        try clear hfz8_0
                        try clear hfz8_1
                        try clear hx188_0
                        try clear p1
                        try clear p18
                        try clear p188
                        try clear p2
                        try clear p6
                        try clear q1
                        try clear q18
                        try clear q188
                        obtain ⟨x10_3, x63_3, rfl, HA, HK3, HO_10, HO_61, BK186, HB⟩ := hrel
                        cases gk with
                        | zero => exact absurd HA.out (by simp [split_Ends.l1])
                        | succ k3 =>
                          have H := HA.out
                          clear HA
                          simp only [split_Ends.l1] at H
                          by_cases c33 : x63_3 < (t193.length : Int)
                          · rw [if_pos c33] at H
                            have c33b0 : decide (x63_3 < (t193.length : Int)) = true := decide_eq_true c33
                            clear c33
                            by_cases c34 : 0 ≤ x63_3
                            · rw [if_pos c34] at H
                              have c34b0 : decide (0 ≤ x63_3) = true := decide_eq_true c34
                              clear c34
                              by_cases c35 : x63_3 < (t193.length : Int)
                              · rw [if_pos c35] at H
                                have c35b0 : decide (x63_3 < (t193.length : Int)) = true := decide_eq_true c35
                                clear c35
                                by_cases c36 : 0 ≤ a2
                                · rw [if_pos c36] at H
                                  have c36b0 := eq_true c36
                                  have c36b1 : decide (0 ≤ a2) = true := decide_eq_true c36
                                  clear c36
                                  obtain ⟨ji37, hji37⟩ : ∃ j_ : Int, (shl .i64 (-1) a2) = j_ := ⟨_, rfl⟩
                                  replace H : (if x63_3 < (l1.length : Int) then (if 0 ≤ (wrap64 (a2 - ((rd_T90 t193 x63_3).f0))) then (if x63_3 < (x10_3.length : Int) then (split_Ends.l1 k3 l1 a2 (x10_3.set (x63_3 : Int).toNat (wrap64 ((ji37) + (shl .i64 (wrap64 ((wrap64 ((wrap64 (2 * ((rd_T90 t193 x63_3).f1))) + 1)) + (rd l1 x63_3))) (wrap64 (a2 - ((rd_T90 t193 x63_3).f0))))))) t193 (t193.length : Int) (wrap64 (x63_3 + 1))) else (none)) else (none)) else (none)) = some (r1, r2) := by first | (rw [hji37] at H; exact H) | (simp only [hji37] at H ⊢; exact H)
                                  have hji37_ : (IntKind.i64.wrap ((-1) * 2 ^ min a2.toNat 64)) = ji37 := hji37
                                  have hji37z : a2 ≤ 64 → (IntKind.i64.wrap ((-1) * 2 ^ a2.toNat)) = ji37 := shl_small hji37
                                  have hji37y : (wrap64 ((-1) * 2 ^ min a2.toNat 64)) = ji37 := (i64_w _).symm.trans hji37_
                                  have hji37n : wrap64 (-2 ^ min a2.toNat 64) = ji37 := by have h_ := hji37y; rw [Int.neg_mul, Int.one_mul] at h_; exact h_
                                  have hji37x : a2 ≤ 64 → (wrap64 ((-1) * 2 ^ a2.toNat)) = ji37 := fun h_ => (i64_w _).symm.trans (hji37z h_)
                                  by_cases c38 : x63_3 < (l1.length : Int)
                                  · rw [if_pos c38] at H
                                    have c38b0 : decide (x63_3 < (l1.length : Int)) = true := decide_eq_true c38
                                    clear c38
                                    obtain ⟨ji39, hji39⟩ : ∃ j_ : Int, (wrap64 (a2 - ((rd_T90 t193 x63_3).f0))) = j_ := ⟨_, rfl⟩
                                    replace H : (if 0 ≤ (ji39) then (if x63_3 < (x10_3.length : Int) then (split_Ends.l1 k3 l1 a2 (x10_3.set (x63_3 : Int).toNat (wrap64 ((ji37) + (shl .i64 (wrap64 ((wrap64 ((wrap64 (2 * ((rd_T90 t193 x63_3).f1))) + 1)) + (rd l1 x63_3))) (ji39))))) t193 (t193.length : Int) (wrap64 (x63_3 + 1))) else (none)) else (none)) = some (r1, r2) := by first | (rw [hji39] at H; exact H) | (simp only [hji39] at H ⊢; exact H)
                                    have hji39w : (IntKind.i64.wrap (a2 - ((rd_T90 t193 x63_3).f0))) = ji39 := (i64_w _).trans hji39
                                    by_cases c40 : 0 ≤ (ji39)
                                    · rw [if_pos c40] at H
                                      have c40b0 := eq_true c40
                                      have c40b1 : decide (0 ≤ (ji39)) = true := decide_eq_true c40
                                      clear c40
                                      obtain ⟨ji41, hji41⟩ : ∃ j_ : Int, (shl .i64 (wrap64 ((wrap64 ((wrap64 (2 * ((rd_T90 t193 x63_3).f1))) + 1)) + (rd l1 x63_3))) (ji39)) = j_ := ⟨_, rfl⟩
                                      replace H : (if x63_3 < (x10_3.length : Int) then (split_Ends.l1 k3 l1 a2 (x10_3.set (x63_3 : Int).toNat (wrap64 ((ji37) + (ji41)))) t193 (t193.length : Int) (wrap64 (x63_3 + 1))) else (none)) = some (r1, r2) := by first | (rw [hji41] at H; exact H) | (simp only [hji41] at H ⊢; exact H)
                                      have hji41_ : (IntKind.i64.wrap ((wrap64 ((wrap64 ((wrap64 (2 * ((rd_T90 t193 x63_3).f1))) + 1)) + (rd l1 x63_3))) * 2 ^ min (ji39).toNat 64)) = ji41 := hji41
                                      have hji41z : (ji39) ≤ 64 → (IntKind.i64.wrap ((wrap64 ((wrap64 ((wrap64 (2 * ((rd_T90 t193 x63_3).f1))) + 1)) + (rd l1 x63_3))) * 2 ^ (ji39).toNat)) = ji41 := shl_small hji41
                                      have hji41y : (wrap64 ((wrap64 ((wrap64 ((wrap64 (2 * ((rd_T90 t193 x63_3).f1))) + 1)) + (rd l1 x63_3))) * 2 ^ min (ji39).toNat 64)) = ji41 := (i64_w _).symm.trans hji41_
                                      have hji41x : (ji39) ≤ 64 → (wrap64 ((wrap64 ((wrap64 ((wrap64 (2 * ((rd_T90 t193 x63_3).f1))) + 1)) + (rd l1 x63_3))) * 2 ^ (ji39).toNat)) = ji41 := fun h_ => (i64_w _).symm.trans (hji41z h_)
                                      by_cases c42 : x63_3 < (x10_3.length : Int)
                                      · rw [if_pos c42] at H
                                        have c42b0 : decide (x63_3 < (x10_3.length : Int)) = true := decide_eq_true c42
                                        clear c42
                                        obtain ⟨y199, hy199⟩ : ∃ y_ : List Int, y_ = (x10_3.set (x63_3 : Int).toNat (wrap64 ((ji37) + (ji41)))) := ⟨_, rfl⟩
                                        replace H : (split_Ends.l1 k3 l1 a2 y199 t193 (t193.length : Int) (wrap64 (x63_3 + 1))) = some (r1, r2) := by first | (rw [hy199]; with_reducible exact H) | (have H2_ := (Option.bind_some _ _).symm.trans H; rw [hy199]; with_reducible exact H2_) | (have H2_ := (Option.bind_some _ _).symm.trans H; with_reducible exact H2_) | with_reducible exact H | (rw [hy199]; exact H) | exact H
                                        have Ny199 := Aside0.mk hy199
                                        clear hy199
                                        have H' := Aside0.mk H
                                        clear H
                                        have p196 : 0 ≤ (x63_3 : Int) := of_decide_eq_true (by first | (with_reducible assumption) | assumption)
                                        have q196 : x63_3 < (t193.length : Int) := of_decide_eq_true (by first | (with_reducible assumption) | assumption)
                                        obtain ⟨ad196, e196, hx196_0, hx196_1⟩ := at_T90 (Kd.R_reads' HO_61.out).2.2 x63_3 p196 q196
                                        cases e196
                                        replace p196 := eq_true p196
                                        replace q196 := eq_true q196
                                        try go_wp2_with (first | ((with_reducible refine gate_dst (N := 12) rfl ?_); (try (refine gate_guard (by rfl) ?_; dsimp only)); refine box_event ?hg (N := 12) ?hd (cs := #[.int .i64 0, .int .i64 0]) (t := 90) ?hr ?_; (case hd => rfl); (case hg => rfl); (case hr => first | (go_simp; done) | (go_simp; rfl)); intro gb197 hg w44 hbox hb; have n0_ := Aside0.mk (Kd.R_below (by (with_reducible repeat (first | apply Kd.R_alloc | apply Kd.R_drewN | apply Kd.R_drew)); exact HO_10.out) hb); have n1_ := Aside0.mk (Kd.R_below (Kd.R_elderB (by (with_reducible repeat (first | apply Kd.R_alloc | apply Kd.R_drewN | apply Kd.R_drew)); exact HO_61.out) gb197 (Nat.le_of_eq hg.symm)) hb); have n2_ := Aside0.mk (blk_below (g := gb186) (o := .cells #[.slice A0_0 l0_0.length c0_0, .slice A0_1 l0_1.length c0_1] 24 (0, 0)) (by (with_reducible repeat (first | refine blk_drewN ?_ _ | refine blk_drew ?_ | refine blk_alloc ?_ _)); exact BK186.out) hb); have n3_ := Aside0.mk (below_step (by repeat (first | (with_reducible first | exact HB.out | apply below_alloc | apply pw_below_drewN | apply below_drew1 | refine below_set ?_ GE186.out) | exact HB.out)) hb); have n4_ := Aside0.mk (hbox); have n5_ := Aside0.mk ((by rw [hg]; exact (below_size (by repeat (first | (with_reducible first | exact HB.out | apply below_alloc | apply pw_below_drewN | apply below_drew1 | refine below_set ?_ GE186.out) | exact HB.out))) : w.heap.size ≤ gb197)); have n6_ := Aside0.mk ((by rw [hg]; exact (below_size (by repeat (first | (with_reducible first | exact HB.out | apply below_alloc | apply pw_below_drewN | apply below_drew1 | refine below_set ?_ GE186.out) | exact HB.out))) : w.heap.size ≤ gb197)); have n7_ := Aside0.mk ((by rw [hg]; exact Nat.ne_of_lt (blk_lt (g := gb186) (o := .cells #[.slice A0_0 l0_0.length c0_0, .slice A0_1 l0_1.length c0_1] 24 (0, 0)) (by (with_reducible repeat (first | refine blk_drewN ?_ _ | refine blk_drew ?_ | refine blk_alloc ?_ _)); exact BK186.out)) : gb186 ≠ gb197)); have n8_ := Aside0.mk ((by rw [hg]; exact Nat.ne_of_gt (blk_lt (g := gb186) (o := .cells #[.slice A0_0 l0_0.length c0_0, .slice A0_1 l0_1.length c0_1] 24 (0, 0)) (by (with_reducible repeat (first | refine blk_drewN ?_ _ | refine blk_drew ?_ | refine blk_alloc ?_ _)); exact BK186.out)) : gb197 ≠ gb186)); clear HO_10; clear HO_61; clear BK186; clear HB; have HO_10 := n0_; have HO_61 := n1_; have BK186 := n2_; have HB := n3_; have BK197 := n4_; have GW197 := n5_; have GE197 := n6_; have NB186_197 := n7_; have NB197_186 := n8_; clear n0_ n1_ n2_ n3_ n4_ n5_ n6_ n7_ n8_; clear hb hbox hg; have hnb45 := NB197_186.out; have hnc45 := NB186_197.out; have hcz46_0 : w44.cell? ⟨gb197, 0, none⟩ = some (.int .i64 0) := (blk_cell BK197.out 0).trans rfl; have hcz46_1 : w44.cell? ⟨gb197, 1, none⟩ = some (.int .i64 0) := (blk_cell BK197.out 1).trans rfl; have hfz46_0 := blk_frozen BK197.out 0; have hfz46_1 := blk_frozen BK197.out 1))
                                        have n0_ : Aside0 (Kd.R (Kd.int .i64) 3 ((w44.setCell ⟨gb197, 0, none⟩ (.int .i64 ((rd_T90 t193 x63_3).f0))).setCell ⟨gb197, 1, none⟩ (.int .i64 ((rd_T90 t193 x63_3).f1))) w.heap.size (fun _ => True) v191 x10_3) := ⟨by (with_reducible repeat (first | apply Kd.R_alloc | apply Kd.R_drewN | apply Kd.R_drew)); exact Kd.R_mono (Kd.R_far (p := ⟨gb197, 1, none⟩) (Kd.R_far (p := ⟨gb197, 0, none⟩) (Kd.R_types HO_10.out BK197.out (by decide)) (fun _ hk => hk.2) (.int .i64 ((rd_T90 t193 x63_3).f0))) (fun _ hk => hk.2) (.int .i64 ((rd_T90 t193 x63_3).f1))) (fun _ hk => trivial)⟩
                                        have n1_ : Aside0 (Kd.R k90 90 ((w44.setCell ⟨gb197, 0, none⟩ (.int .i64 ((rd_T90 t193 x63_3).f0))).setCell ⟨gb197, 1, none⟩ (.int .i64 ((rd_T90 t193 x63_3).f1))) w.heap.size (fun k_ => k_ ≠ gb197) (.slice (some ad196) t193.length co32) t193) := ⟨by (with_reducible repeat (first | apply Kd.R_alloc | apply Kd.R_drewN | apply Kd.R_drew)); exact Kd.R_mono (Kd.R_far (p := ⟨gb197, 1, none⟩) (Kd.R_far (p := ⟨gb197, 0, none⟩) (Kd.R_mono HO_61.out (fun k_ hk => (⟨hk, hk.2⟩ : _ ∧ k_ ≠ gb197))) (fun _ hk => hk.2) (.int .i64 ((rd_T90 t193 x63_3).f0))) (fun _ hk => hk.2) (.int .i64 ((rd_T90 t193 x63_3).f1))) (fun _ hk => hk.1.2)⟩
                                        have n2_ : Aside0 (((w44.setCell ⟨gb197, 0, none⟩ (.int .i64 ((rd_T90 t193 x63_3).f0))).setCell ⟨gb197, 1, none⟩ (.int .i64 ((rd_T90 t193 x63_3).f1))).heap[gb186]? = some (.cells #[.slice A0_0 l0_0.length c0_0, .slice A0_1 l0_1.length c0_1] 24 (0, 0))) := ⟨by (with_reducible repeat (first | refine blk_drewN ?_ _ | refine blk_drew ?_ | refine blk_alloc ?_ _)); refine blk_far ?_ NB186_197.out _; (with_reducible repeat (first | refine blk_drewN ?_ _ | refine blk_drew ?_ | refine blk_alloc ?_ _)); refine blk_far ?_ NB186_197.out _; (with_reducible repeat (first | refine blk_drewN ?_ _ | refine blk_drew ?_ | refine blk_alloc ?_ _)); exact BK186.out⟩
                                        have n3_ : Aside0 (((w44.setCell ⟨gb197, 0, none⟩ (.int .i64 ((rd_T90 t193 x63_3).f0))).setCell ⟨gb197, 1, none⟩ (.int .i64 ((rd_T90 t193 x63_3).f1))).heap[gb197]? = some (.cells #[.int .i64 ((rd_T90 t193 x63_3).f0), .int .i64 ((rd_T90 t193 x63_3).f1)] 90 (0, 0))) := ⟨by (with_reducible repeat (first | refine blk_drewN ?_ _ | refine blk_drew ?_ | refine blk_alloc ?_ _)); refine blk_put (cs := #[.int .i64 ((rd_T90 t193 x63_3).f0), .int .i64 0]) ?_ 1 _ rfl; (with_reducible repeat (first | refine blk_drewN ?_ _ | refine blk_drew ?_ | refine blk_alloc ?_ _)); refine blk_put (cs := #[.int .i64 0, .int .i64 0]) ?_ 0 _ rfl; (with_reducible repeat (first | refine blk_drewN ?_ _ | refine blk_drew ?_ | refine blk_alloc ?_ _)); exact BK197.out⟩
                                        have n4_ : Aside0 (Below w.heap.size w ((w44.setCell ⟨gb197, 0, none⟩ (.int .i64 ((rd_T90 t193 x63_3).f0))).setCell ⟨gb197, 1, none⟩ (.int .i64 ((rd_T90 t193 x63_3).f1)))) := ⟨by repeat (first | (with_reducible first | exact HB.out | apply below_alloc | apply pw_below_drewN | apply below_drew1 | refine below_set ?_ GE186.out | refine below_set ?_ GE197.out) | exact HB.out)⟩
                                        (try clear HO_10)
                                        (try clear HO_61)
                                        (try clear BK186)
                                        (try clear BK197)
                                        (try clear HB)
                                        generalize ((w44.setCell ⟨gb197, 0, none⟩ (.int .i64 ((rd_T90 t193 x63_3).f0))).setCell ⟨gb197, 1, none⟩ (.int .i64 ((rd_T90 t193 x63_3).f1))) = w47 at n0_ n1_ n2_ n3_ n4_ ⊢
                                        have HO_10 := n0_
                                        have HO_61 := n1_
                                        have BK186 := n2_
                                        have BK197 := n3_
                                        have HB := n4_
                                        clear n0_ n1_ n2_ n3_ n4_
                                        have n0_ := Aside0.mk (Kd.R_drew HO_10.out)
                                        have n1_ := Aside0.mk (Kd.R_drew HO_61.out)
                                        have n2_ := Aside0.mk (blk_drew BK186.out)
                                        have n3_ := Aside0.mk (blk_drew BK197.out)
                                        have n4_ := Aside0.mk (below_drew1 HB.out)
                                        clear HO_10
                                        clear HO_61
                                        clear BK186
                                        clear BK197
                                        clear HB
                                        have HO_10 := n0_
                                        have HO_61 := n1_
                                        have BK186 := n2_
                                        have BK197 := n3_
                                        have HB := n4_
                                        clear n0_ n1_ n2_ n3_ n4_
                                        have p198 : 0 ≤ (x63_3 : Int) := of_decide_eq_true (by first | (with_reducible assumption) | assumption)
                                        have q198 : x63_3 < (l1.length : Int) := of_decide_eq_true (by first | (with_reducible assumption) | assumption)
                                        obtain ⟨ad198, e198, hx198_0⟩ := Kd.at_int HR1.out x63_3 p198 q198
                                        have hw198_0 := hx198_0
                                        cases e198
                                        replace hx198_0 := (HB.out.cell (World.block_lt_of_cell? w _ hx198_0)).trans hx198_0
                                        replace p198 := eq_true p198
                                        replace q198 := eq_true q198
                                        have p43 : 0 ≤ (x63_3 : Int) := of_decide_eq_true (by first | (with_reducible assumption) | assumption)
                                        have q43 : (x63_3 : Int) < ((x10_3.length : Int) : Int) := of_decide_eq_true (by first | (with_reducible assumption) | assumption)
                                        obtain ⟨go43, co43, eo43, gb43, gl43, cl43, HG43⟩ := Kd.R_form HO_10.out (by omega)
                                        (first | cases eo43 | (injection eo43 with ea_ en_ ec_; (first | subst ea_ | (injection ea_ with ea_; subst ea_)); subst ec_; clear en_))
                                        have GB43 := Aside0.mk gb43
                                        have GG43 := Aside0.mk HG43
                                        clear gb43 gl43 HG43
                                        obtain ⟨hx43_0, hf43_0⟩ := Kd.R_celln 0 HO_10.out (x63_3 : Int) p43 q43
                                        replace p43 := eq_true p43
                                        replace q43 := eq_true q43
                                        have HP49 := Kd.R_putn HO_10.out (x63_3 : Int) (wrap64 ((ji37) + (ji41)))
                                        rw [← Ny199.out] at HP49
                                        have HQ49 := Aside0.mk HP49
                                        clear HP49
                                        refine start_ (n := 21) (S := fun w' => w'.cell? ⟨gb197, 0, none⟩ = some (.int .i64 ((rd_T90 t193 x63_3).f0)) ∧ w'.cell? ⟨gb197, 1, none⟩ = some (.int .i64 ((rd_T90 t193 x63_3).f1)) ∧ w'.cell? (ad198.add (x63_3).toNat) = some (.int .i64 (rd l1 x63_3))) (ds := [20]) #[false, false, false, false, false, false, false, false, false, false, false, false, false, false, false, false, false, false, false, false, false] (by kernel_rfl) rfl rfl ⟨(blk_cell BK197.out 0).trans rfl, (blk_cell BK197.out 1).trans rfl, ((HB.out.cell (World.block_lt_of_cell? w _ hw198_0)).trans hw198_0)⟩ (fun hHeld => ?_); refine with_tabW split_Ends.tab17 split_Ends.bits17 (fun HT_ HW_ => ?_)
                                        generalize w47.drew = w48 at HO_10 HO_61 BK186 BK197 HB GG43 HQ49 hf43_0 hx198_0 hx43_0 hHeld ⊢
                                        refine pure_ (i := 0) (N := some 68) (v := ?_) (a' := ?_) #[true, false, false, false, false, false, false, false, false, false, false, false, false, false, false, false, false, false, false, false, false] rfl rfl (any_of HT_.out (by kernel_rfl)) (fun _ _ _ h => h) (Or.inl ⟨by rfl, ?_⟩) ?_ ?_
                                        rotate_left
                                        · intro w'
                                          go_simp
                                          with_reducible rfl
                                        rotate_left
                                        · simp only [Act.put, List.setIfInBounds_toArray, List.set_cons_zero, List.set_cons_succ, i64_w, i32_w]
                                          rfl
                                        refine pure_ (i := 1) (N := some 69) (v := ?_) (a' := ?_) #[true, true, false, false, false, false, false, false, false, false, false, false, false, false, false, false, false, false, false, false, false] rfl rfl (any_of HT_.out (by kernel_rfl)) (fun _ _ _ h => h) (Or.inl ⟨by rfl, ?_⟩) ?_ ?_
                                        rotate_left
                                        · intro w'
                                          go_simp
                                          with_reducible rfl
                                        rotate_left
                                        · simp only [Act.put, List.setIfInBounds_toArray, List.set_cons_zero, List.set_cons_succ, i64_w, i32_w]
                                          rfl
                                        refine pure_ (i := 2) (N := some 70) (v := ?_) (a' := ?_) #[true, true, true, false, false, false, false, false, false, false, false, false, false, false, false, false, false, false, false, false, false] rfl rfl (any_of HT_.out (by kernel_rfl)) (fun _ _ _ h => h) (Or.inl ⟨by rfl, ?_⟩) ?_ ?_
                                        rotate_left
                                        · intro w'
                                          go_simp
                                          with_reducible rfl
                                        rotate_left
                                        · simp only [Act.put, List.setIfInBounds_toArray, List.set_cons_zero, List.set_cons_succ, i64_w, i32_w]
                                          rfl
                                        refine pure_ (i := 3) (N := some 71) (v := ?_) (a' := ?_) #[true, true, true, true, false, false, false, false, false, false, false, false, false, false, false, false, false, false, false, false, false] rfl rfl (any_of HT_.out (by kernel_rfl)) (fun _ _ _ h => h) (Or.inl ⟨by rfl, ?_⟩) ?_ ?_
                                        rotate_left
                                        · intro w'
                                          go_simp
                                          with_reducible rfl
                                        rotate_left
                                        · simp only [Act.put, List.setIfInBounds_toArray, List.set_cons_zero, List.set_cons_succ, i64_w, i32_w]
                                          rfl
                                        refine pure_ (i := 4) (N := some 72) (v := ?_) (a' := ?_) #[true, true, true, true, true, false, false, false, false, false, false, false, false, false, false, false, false, false, false, false, false] rfl rfl (any_of HT_.out (by kernel_rfl)) (fun _ _ _ h => h) (Or.inl ⟨by rfl, ?_⟩) ?_ ?_
                                        rotate_left
                                        · intro w'
                                          go_simp
                                          with_reducible rfl
                                        rotate_left
                                        · simp only [Act.put, List.setIfInBounds_toArray, List.set_cons_zero, List.set_cons_succ, i64_w, i32_w]
                                          rfl
                                        refine pure_ (i := 8) (N := some 76) (v := ?_) (a' := ?_) #[true, true, true, true, true, false, false, false, true, false, false, false, false, false, false, false, false, false, false, false, false] rfl rfl (any_of HT_.out (by kernel_rfl)) (fun _ _ _ h => h) (Or.inl ⟨by rfl, ?_⟩) ?_ ?_
                                        rotate_left
                                        · intro w'
                                          go_simp
                                          with_reducible rfl
                                        rotate_left
                                        · simp only [Act.put, List.setIfInBounds_toArray, List.set_cons_zero, List.set_cons_succ, i64_w, i32_w]
                                          rfl
                                        refine pure_ (i := 9) (N := some 77) (v := ?_) (a' := ?_) #[true, true, true, true, true, false, false, false, true, true, false, false, false, false, false, false, false, false, false, false, false] rfl rfl (any_of HT_.out (by kernel_rfl)) (fun _ _ _ h => h) (Or.inl ⟨by rfl, ?_⟩) ?_ ?_
                                        rotate_left
                                        · intro w'
                                          go_simp
                                          with_reducible rfl
                                        rotate_left
                                        · simp only [Act.put, List.setIfInBounds_toArray, List.set_cons_zero, List.set_cons_succ, i64_w, i32_w]
                                          rfl
                                        refine pure_ (i := 10) (N := some 78) (v := ?_) (a' := ?_) #[true, true, true, true, true, false, false, false, true, true, true, false, false, false, false, false, false, false, false, false, false] rfl rfl (any_of HT_.out (by kernel_rfl)) (fun _ _ _ h => h) (Or.inl ⟨by rfl, ?_⟩) ?_ ?_
                                        rotate_left
                                        · intro w'
                                          go_simp
                                          with_reducible rfl
                                        rotate_left
                                        · simp only [Act.put, List.setIfInBounds_toArray, List.set_cons_zero, List.set_cons_succ, i64_w, i32_w]
                                          rfl
                                        refine pure_ (i := 13) (N := some 81) (v := ?_) (a' := ?_) #[true, true, true, true, true, false, false, false, true, true, true, false, false, true, false, false, false, false, false, false, false] rfl rfl (any_of HT_.out (by kernel_rfl)) (fun _ _ _ h => h) (Or.inl ⟨by rfl, ?_⟩) ?_ ?_
                                        rotate_left
                                        · intro w'
                                          go_simp
                                          with_reducible rfl
                                        rotate_left
                                        · simp only [Act.put, List.setIfInBounds_toArray, List.set_cons_zero, List.set_cons_succ, i64_w, i32_w]
                                          rfl
                                        refine pure_ (i := 14) (N := some 82) (v := ?_) (a' := ?_) #[true, true, true, true, true, false, false, false, true, true, true, false, false, true, true, false, false, false, false, false, false] rfl rfl (any_of HT_.out (by kernel_rfl)) (fun _ _ _ h => h) (Or.inl ⟨by rfl, ?_⟩) ?_ ?_
                                        rotate_left
                                        · intro w'
                                          go_simp
                                          with_reducible rfl
                                        rotate_left
                                        · simp only [Act.put, List.setIfInBounds_toArray, List.set_cons_zero, List.set_cons_succ, i64_w, i32_w]
                                          rfl
                                        refine take_ (i := 5) (N := some 73) (v := ?_) (a' := ?_) #[true, true, true, true, true, true, false, false, true, true, true, false, false, true, true, false, false, false, false, false, false] rfl rfl (take_ofW HT_.out HW_.out (by kernel_rfl)) (fun _ _ _ h => h) (Or.inl ⟨by rfl, ?_⟩) hHeld ?_ ?_
                                        rotate_left
                                        · rintro w' ⟨s0, s1, s2⟩
                                          go_simp
                                          with_reducible rfl
                                        rotate_left
                                        · simp only [Act.put, List.setIfInBounds_toArray, List.set_cons_zero, List.set_cons_succ, i64_w, i32_w]
                                          rfl
                                        refine pure_ (i := 6) (N := some 74) (v := ?_) (a' := ?_) #[true, true, true, true, true, true, true, false, true, true, true, false, false, true, true, false, false, false, false, false, false] rfl rfl (any_of HT_.out (by kernel_rfl)) (fun _ _ _ h => h) (Or.inl ⟨by rfl, ?_⟩) ?_ ?_
                                        rotate_left
                                        · intro w'
                                          go_simp
                                          with_reducible rfl
                                        rotate_left
                                        · simp only [Act.put, List.setIfInBounds_toArray, List.set_cons_zero, List.set_cons_succ, i64_w, i32_w]
                                          rfl
                                        refine pure_ (i := 7) (N := some 75) (v := ?_) (a' := ?_) #[true, true, true, true, true, true, true, true, true, true, true, false, false, true, true, false, false, false, false, false, false] rfl rfl (any_of HT_.out (by kernel_rfl)) (fun _ _ _ h => h) (Or.inl ⟨by rfl, ?_⟩) ?_ ?_
                                        rotate_left
                                        · intro w'
                                          go_simp
                                          with_reducible rfl
                                        rotate_left
                                        · simp only [Act.put, List.setIfInBounds_toArray, List.set_cons_zero, List.set_cons_succ, i64_w, i32_w]
                                          rfl
                                        refine take_ (i := 11) (N := some 79) (v := ?_) (a' := ?_) #[true, true, true, true, true, true, true, true, true, true, true, true, false, true, true, false, false, false, false, false, false] rfl rfl (take_ofW HT_.out HW_.out (by kernel_rfl)) (fun _ _ _ h => h) (Or.inl ⟨by rfl, ?_⟩) hHeld ?_ ?_
                                        rotate_left
                                        · rintro w' ⟨s0, s1, s2⟩
                                          go_simp
                                          with_reducible rfl
                                        rotate_left
                                        · simp only [Act.put, List.setIfInBounds_toArray, List.set_cons_zero, List.set_cons_succ, i64_w, i32_w]
                                          rfl
                                        refine pure_ (i := 12) (N := some 80) (v := ?_) (a' := ?_) #[true, true, true, true, true, true, true, true, true, true, true, true, true, true, true, false, false, false, false, false, false] rfl rfl (any_of HT_.out (by kernel_rfl)) (fun _ _ _ h => h) (Or.inl ⟨by rfl, ?_⟩) ?_ ?_
                                        rotate_left
                                        · intro w'
                                          go_simp
                                          with_reducible rfl
                                        rotate_left
                                        · simp only [Act.put, List.setIfInBounds_toArray, List.set_cons_zero, List.set_cons_succ, i64_w, i32_w]
                                          rfl
                                        refine take_ (i := 15) (N := some 83) (v := ?_) (a' := ?_) #[true, true, true, true, true, true, true, true, true, true, true, true, true, true, true, true, false, false, false, false, false] rfl rfl (take_ofW HT_.out HW_.out (by kernel_rfl)) (fun _ _ _ h => h) (Or.inl ⟨by rfl, ?_⟩) hHeld ?_ ?_
                                        rotate_left
                                        · rintro w' ⟨s0, s1, s2⟩
                                          go_simp
                                          with_reducible rfl
                                        rotate_left
                                        · simp only [Act.put, List.setIfInBounds_toArray, List.set_cons_zero, List.set_cons_succ, i64_w, i32_w]
                                          rfl
                                        refine pure_ (i := 16) (N := some 84) (v := ?_) (a' := ?_) #[true, true, true, true, true, true, true, true, true, true, true, true, true, true, true, true, true, false, false, false, false] rfl rfl (any_of HT_.out (by kernel_rfl)) (fun _ _ _ h => h) (Or.inl ⟨by rfl, ?_⟩) ?_ ?_
                                        rotate_left
                                        · intro w'
                                          go_simp
                                          with_reducible rfl
                                        rotate_left
                                        · simp only [Act.put, List.setIfInBounds_toArray, List.set_cons_zero, List.set_cons_succ, i64_w, i32_w]
                                          rfl
                                        refine pure_ (i := 17) (N := some 85) (v := ?_) (a' := ?_) #[true, true, true, true, true, true, true, true, true, true, true, true, true, true, true, true, true, true, false, false, false] rfl rfl (any_of HT_.out (by kernel_rfl)) (fun _ _ _ h => h) (Or.inl ⟨by rfl, ?_⟩) ?_ ?_
                                        rotate_left
                                        · intro w'
                                          go_simp
                                          with_reducible rfl
                                        rotate_left
                                        · simp only [Act.put, List.setIfInBounds_toArray, List.set_cons_zero, List.set_cons_succ, i64_w, i32_w]
                                          rfl
                                        refine pure_ (i := 18) (N := some 86) (v := ?_) (a' := ?_) #[true, true, true, true, true, true, true, true, true, true, true, true, true, true, true, true, true, true, true, false, false] rfl rfl (any_of HT_.out (by kernel_rfl)) (fun _ _ _ h => h) (Or.inl ⟨by rfl, ?_⟩) ?_ ?_
                                        rotate_left
                                        · intro w'
                                          go_simp
                                          with_reducible rfl
                                        rotate_left
                                        · simp only [Act.put, List.setIfInBounds_toArray, List.set_cons_zero, List.set_cons_succ, i64_w, i32_w]
                                          rfl
                                        refine pure_ (i := 19) (N := some 87) (v := ?_) (a' := ?_) #[true, true, true, true, true, true, true, true, true, true, true, true, true, true, true, true, true, true, true, true, false] rfl rfl (any_of HT_.out (by kernel_rfl)) (fun _ _ _ h => h) (Or.inl ⟨by rfl, ?_⟩) ?_ ?_
                                        rotate_left
                                        · intro w'
                                          go_simp
                                          with_reducible rfl
                                        rotate_left
                                        · simp only [Act.put, List.setIfInBounds_toArray, List.set_cons_zero, List.set_cons_succ, i64_w, i32_w]
                                          rfl
                                        refine last_ (i := 20) (N := none) #[true, true, true, true, true, true, true, true, true, true, true, true, true, true, true, true, true, true, true, true, true] rfl rfl (one_of HT_.out (by kernel_rfl)) (by decide) (fun K hK => ?_)
                                        refine skip_ (w1 := ?_) (by rfl) rfl ?_ ?_
                                        rotate_left
                                        · go_simp
                                          rfl
                                        refine hK.out _ _ ?_
                                        clear hK K
                                        refine done_ (done_of HT_.out (by kernel_rfl)) ?_
                                        try go_wp2
                                        go_roundg k3
                                        case measure => have := HK1.out; have := HJ15.out; have := HK3.out; omega
                                        case rel => exact ⟨(y199), (wrap64 (x63_3 + 1)), (by first | rfl | (simp; done) | (simp [*]; done)), H', ⟨by have := HK1.out; have := HJ15.out; have := HK3.out; omega⟩, ⟨by (with_reducible repeat (first | apply Kd.R_alloc | apply Kd.R_drewN | apply Kd.R_drew)); exact HQ49.out⟩, ⟨by (with_reducible repeat (first | apply Kd.R_alloc | apply Kd.R_drewN | apply Kd.R_drew)); exact Kd.R_mono (Kd.R_far (p := ⟨go43, (x63_3 : Int).toNat, none⟩) (Kd.R_types HO_61.out GG43.out (by decide)) (fun _ hk => hk.2) (.int .i64 (wrap64 ((ji37) + (ji41))))) (fun _ hk => trivial)⟩, ⟨by (with_reducible repeat (first | refine blk_drewN ?_ _ | refine blk_drew ?_ | refine blk_alloc ?_ _)); refine blk_far ?_ (by have h_ := Kd.R_ne HO_10.out BK186.out (by decide); intro e_; exact h_ (by rw [e_]; rfl)) _; (with_reducible repeat (first | refine blk_drewN ?_ _ | refine blk_drew ?_ | refine blk_alloc ?_ _)); exact BK186.out⟩, ⟨by repeat (first | (with_reducible first | exact HB.out | apply below_alloc | apply pw_below_drewN | apply below_drew1 | refine below_set ?_ GB43.out | refine below_set ?_ GE186.out | refine below_set ?_ GE197.out) | exact HB.out)⟩⟩
                                      · rw [if_neg c42] at H
                                        exact absurd H (by simp)
                                    · rw [if_neg c40] at H
                                      exact absurd H (by simp)
                                  · rw [if_neg c38] at H
                                    exact absurd H (by simp)
                                · rw [if_neg c36] at H
                                  exact absurd H (by simp)
                              · rw [if_neg c35] at H
                                exact absurd H (by simp)
                            · rw [if_neg c34] at H
                              exact absurd H (by simp)
                          · rw [if_neg c33] at H
                            have c33b0 : decide (x63_3 < (t193.length : Int)) = false := decide_eq_false c33
                            clear c33
                            simp only [Option.some.injEq, Prod.mk.injEq] at H
                            obtain ⟨rfl, rfl⟩ := H
                            go_wp2
                            go_ret2
                            exact ⟨_, by first | rfl | (simp [errW_none, errW_some] <;> rfl) | (simp [*, errW_none, errW_some] <;> rfl), by (with_reducible repeat (first | apply Kd.R_alloc | apply Kd.R_drewN | apply Kd.R_drew)); exact HO_10.out, by repeat (first | (with_reducible first | exact HB.out | apply below_alloc | apply pw_below_drewN | apply below_drew1 | refine below_set ?_ GE186.out) | exact HB.out)⟩
                    · rw [if_neg c26] at H
                      exact absurd H (by simp)
                  · rw [if_neg c25] at H
                    exact absurd H (by simp)
    · rw [if_neg c6] at H
      have c6b0 : ((l1.length : Int) == (l0_0.length : Int)) = false := beq_eq_false_iff_ne.mpr c6
      have c6b1 : ((l1.length : Int) != (l0_0.length : Int)) = true := bne_iff_ne.mpr c6
      have c6b2 : (l1.length == l0_0.length) = false := by first | simpa using c6 | (simp at c6 ⊢; omega)
      simp only [Option.some.injEq, Prod.mk.injEq] at H
      obtain ⟨rfl, rfl⟩ := H
      go_enter Try.func21, Try.ntmps21
      go_wp2_with (first | ((with_reducible refine gate_dst (N := 3) rfl ?_); (try (refine gate_guard (by rfl) ?_; dsimp only)); refine box_event ?hg (N := 3) ?hd (cs := #[.slice A0_0 l0_0.length c0_0, .slice A0_1 l0_1.length c0_1]) (t := 24) ?hr ?_; (case hd => rfl); (case hg => rfl); (case hr => first | (go_simp; done) | (go_simp; rfl)); intro gb186 hg w50 hbox hb; have n0_ := Aside0.mk (below_step (by repeat (first | (with_reducible first | exact HB.out | apply below_alloc | apply pw_below_drewN | apply below_drew1) | exact HB.out)) hb); have n1_ := Aside0.mk (hbox); have n2_ := Aside0.mk ((by rw [hg]; exact (below_size (by repeat (first | (with_reducible first | exact HB.out | apply below_alloc | apply pw_below_drewN | apply below_drew1) | exact HB.out))) : w.heap.size ≤ gb186)); have n3_ := Aside0.mk ((by rw [hg]; exact (below_size (by repeat (first | (with_reducible first | exact HB.out | apply below_alloc | apply pw_below_drewN | apply below_drew1) | exact HB.out))) : w.heap.size ≤ gb186)); clear HB; have HB := n0_; have BK186 := n1_; have GW186 := n2_; have GE186 := n3_; clear n0_ n1_ n2_ n3_; clear hb hbox hg; have hcz51_0 : w50.cell? ⟨gb186, 0, none⟩ = some (.slice A0_0 l0_0.length c0_0) := (blk_cell BK186.out 0).trans rfl; have hcz51_1 : w50.cell? ⟨gb186, 1, none⟩ = some (.slice A0_1 l0_1.length c0_1) := (blk_cell BK186.out 1).trans rfl; have hfz51_0 := blk_frozen BK186.out 0; have hfz51_1 := blk_frozen BK186.out 1) | ((with_reducible refine gate_callee (f := 17) rfl ?_); refine goesL_ (some 17) rfl rfl Try.func17 (by kernel_rfl) rfl #[.agg #[.slice A0_0 l0_0.length c0_0, .slice A0_1 l0_1.length c0_1], .int .i64 (l0_0.length : Int)] rfl (by (try simp only [List.map_toArray, List.map_cons, List.map_nil]); first | done | rfl | (simp only [List.length_drop, List.length_take]; rfl)) ?_; (with_reducible refine (split_Check.calls k _ _ l0_0 _ _ l0_1 (l0_0.length : Int) t187 _ ?side1 ?side2 ?side3 ?side4 A4.out).mono ?_); (case side1 => repeat (first | exact (Kd.C_below HR0_0.out HB.out) | (with_reducible refine Kd.C_alloc ?_ _) | (with_reducible refine Kd.C_drewN ?_ _) | (with_reducible refine Kd.C_drew ?_))); (case side2 => exact HC0_0.out); (case side3 => repeat (first | exact (Kd.C_below HR0_1.out HB.out) | (with_reducible refine Kd.C_alloc ?_ _) | (with_reducible refine Kd.C_drewN ?_ _) | (with_reducible refine Kd.C_drew ?_))); (case side4 => exact HC0_1.out); rintro e w52 ⟨rfl, hb⟩; refine ⟨_, rfl, ?_⟩; have n0_ := Aside0.mk (blk_below (g := gb186) (o := .cells #[.slice A0_0 l0_0.length c0_0, .slice A0_1 l0_1.length c0_1] 24 (0, 0)) (by (with_reducible repeat (first | refine blk_drewN ?_ _ | refine blk_drew ?_ | refine blk_alloc ?_ _)); exact BK186.out) hb); have n1_ := Aside0.mk (below_step (by repeat (first | (with_reducible first | exact HB.out | apply below_alloc | apply pw_below_drewN | apply below_drew1 | refine below_set ?_ GE186.out) | exact HB.out)) hb); clear BK186; clear HB; have BK186 := n0_; have HB := n1_; clear n0_ n1_; (try clear hb); (try clear hb2); (try clear hk); (try clear hi); have hcz53_0 : w52.cell? ⟨gb186, 0, none⟩ = some (.slice A0_0 l0_0.length c0_0) := (blk_cell BK186.out 0).trans rfl; have hcz53_1 : w52.cell? ⟨gb186, 1, none⟩ = some (.slice A0_1 l0_1.length c0_1) := (blk_cell BK186.out 1).trans rfl; have hfz53_0 := blk_frozen BK186.out 0; have hfz53_1 := blk_frozen BK186.out 1))
      go_ret2
      exact ⟨_, by first | rfl | (simp [errW_none, errW_some] <;> rfl) | (simp [*, errW_none, errW_some] <;> rfl), by first | exact Kd.R_nil _ _ _ _ _ | exact Kd.N_nil _ _ _ _ _ | exact Kd.V_nil _ _ _ _ _ | exact Kd.Q_nil _ _ _ _ _ | exact Kd.S_nil _ _ _ _ _, by repeat (first | (with_reducible first | exact HB.out | apply below_alloc | apply pw_below_drewN | apply below_drew1 | refine below_set ?_ GE186.out) | exact HB.out)⟩
  · rw [if_neg c5] at H
    have c5b0 : (t187 == 0) = false := beq_eq_false_iff_ne.mpr c5
    have c5b1 : (t187 != 0) = true := bne_iff_ne.mpr c5
    simp only [Option.some.injEq, Prod.mk.injEq] at H
    obtain ⟨rfl, rfl⟩ := H
    go_enter Try.func21, Try.ntmps21
    go_wp2_with (first | ((with_reducible refine gate_dst (N := 3) rfl ?_); (try (refine gate_guard (by rfl) ?_; dsimp only)); refine box_event ?hg (N := 3) ?hd (cs := #[.slice A0_0 l0_0.length c0_0, .slice A0_1 l0_1.length c0_1]) (t := 24) ?hr ?_; (case hd => rfl); (case hg => rfl); (case hr => first | (go_simp; done) | (go_simp; rfl)); intro gb186 hg w54 hbox hb; have n0_ := Aside0.mk (below_step (by repeat (first | (with_reducible first | exact HB.out | apply below_alloc | apply pw_below_drewN | apply below_drew1) | exact HB.out)) hb); have n1_ := Aside0.mk (hbox); have n2_ := Aside0.mk ((by rw [hg]; exact (below_size (by repeat (first | (with_reducible first | exact HB.out | apply below_alloc | apply pw_below_drewN | apply below_drew1) | exact HB.out))) : w.heap.size ≤ gb186)); have n3_ := Aside0.mk ((by rw [hg]; exact (below_size (by repeat (first | (with_reducible first | exact HB.out | apply below_alloc | apply pw_below_drewN | apply below_drew1) | exact HB.out))) : w.heap.size ≤ gb186)); clear HB; have HB := n0_; have BK186 := n1_; have GW186 := n2_; have GE186 := n3_; clear n0_ n1_ n2_ n3_; clear hb hbox hg; have hcz55_0 : w54.cell? ⟨gb186, 0, none⟩ = some (.slice A0_0 l0_0.length c0_0) := (blk_cell BK186.out 0).trans rfl; have hcz55_1 : w54.cell? ⟨gb186, 1, none⟩ = some (.slice A0_1 l0_1.length c0_1) := (blk_cell BK186.out 1).trans rfl; have hfz55_0 := blk_frozen BK186.out 0; have hfz55_1 := blk_frozen BK186.out 1) | ((with_reducible refine gate_callee (f := 17) rfl ?_); refine goesL_ (some 17) rfl rfl Try.func17 (by kernel_rfl) rfl #[.agg #[.slice A0_0 l0_0.length c0_0, .slice A0_1 l0_1.length c0_1], .int .i64 (l0_0.length : Int)] rfl (by (try simp only [List.map_toArray, List.map_cons, List.map_nil]); first | done | rfl | (simp only [List.length_drop, List.length_take]; rfl)) ?_; (with_reducible refine (split_Check.calls k _ _ l0_0 _ _ l0_1 (l0_0.length : Int) t187 _ ?side1 ?side2 ?side3 ?side4 A4.out).mono ?_); (case side1 => repeat (first | exact (Kd.C_below HR0_0.out HB.out) | (with_reducible refine Kd.C_alloc ?_ _) | (with_reducible refine Kd.C_drewN ?_ _) | (with_reducible refine Kd.C_drew ?_))); (case side2 => exact HC0_0.out); (case side3 => repeat (first | exact (Kd.C_below HR0_1.out HB.out) | (with_reducible refine Kd.C_alloc ?_ _) | (with_reducible refine Kd.C_drewN ?_ _) | (with_reducible refine Kd.C_drew ?_))); (case side4 => exact HC0_1.out); rintro e w56 ⟨rfl, hb⟩; refine ⟨_, rfl, ?_⟩; have n0_ := Aside0.mk (blk_below (g := gb186) (o := .cells #[.slice A0_0 l0_0.length c0_0, .slice A0_1 l0_1.length c0_1] 24 (0, 0)) (by (with_reducible repeat (first | refine blk_drewN ?_ _ | refine blk_drew ?_ | refine blk_alloc ?_ _)); exact BK186.out) hb); have n1_ := Aside0.mk (below_step (by repeat (first | (with_reducible first | exact HB.out | apply below_alloc | apply pw_below_drewN | apply below_drew1 | refine below_set ?_ GE186.out) | exact HB.out)) hb); clear BK186; clear HB; have BK186 := n0_; have HB := n1_; clear n0_ n1_; (try clear hb); (try clear hb2); (try clear hk); (try clear hi)))
    go_ret2
    exact ⟨_, by first | rfl | (simp [errW_none, errW_some] <;> rfl) | (simp [*, errW_none, errW_some] <;> rfl), by first | exact Kd.R_nil _ _ _ _ _ | exact Kd.N_nil _ _ _ _ _ | exact Kd.V_nil _ _ _ _ _ | exact Kd.Q_nil _ _ _ _ _ | exact Kd.S_nil _ _ _ _ _, by repeat (first | (with_reducible first | exact HB.out | apply below_alloc | apply pw_below_drewN | apply below_drew1 | refine below_set ?_ GE186.out) | exact HB.out)⟩

-- NOT PRINTED: function 42 (acc_New)

-- NOT PRINTED: function 81 (math_Float64bits)

-- NOT PRINTED: function 56 (api_Bits)

-- NOT PRINTED: function 64 (acc_split)

end Go.Proofs.Ytlidbaejhmamjaa.PB

/-! Rows that are read, boxes of regions: what the laws' walks carry on. -/
namespace Go.Proofs.Ytlidbaejhmamjaa.LW
open Go.RowKit Go.Proofs.YtlidbaejhmamjaaW.PrintWords Go.Proofs.YtlidbaejhmamjaaW.PrintLast Go.Proofs.YtlidbaejhmamjaaW.PrintMore Go.Proofs.Ytlidbaejhmamjaa.PB Go.Proofs.Ytlidbaejhmamjaa.LA Go.Proofs.Ytlidbaejhmamjaa.AC
set_option linter.unusedVariables false
set_option linter.unusedSimpArgs false

/-- A row of whole numbers that is read. -/
structure Rd (w : World) (A : Option Addr) (c : Nat) (xs : List Int) : Prop where
  row : Kd.C (Kd.int .i64) w A xs.length xs
  cap : xs.length ≤ c
/-- A region's box. -/
def Bx (w : World) (g : Nat) (A0 : Option Addr) (n0 c0 : Nat) (A1 : Option Addr) (n1 c1 : Nat) : Prop := w.heap[g]? = some (.cells #[.slice A0 n0 c0, .slice A1 n1 c1] 24 (0, 0))
theorem Rd.step {w w' : World} {A : Option Addr} {c : Nat} {xs : List Int} (h : Rd w A c xs) (hb : Below w.heap.size w w') : Rd w' A c xs := ⟨Kd.C_below h.row hb, h.cap⟩
theorem Rd.of_R {w : World} {base : Nat} {ok : Nat → Prop} {v : Value} {xs : List Int} (h : Kd.R (Kd.int .i64) 3 w base ok v xs) : ∃ A c, v = .slice A xs.length c ∧ Rd w A c xs := by
  obtain ⟨A, c, rfl⟩ := Kd.R_slice h
  have := Kd.R_reads' h
  exact ⟨A, c, rfl, this.2.2, this.2.1⟩
theorem Rd.put {w w' : World} {A : Option Addr} {c : Nat} {xs : List Int} (h : Rd w A c xs) {g : Nat} {A0 A1 : Option Addr} {n0 c0 n1 c1 : Nat} (hk : Bx w g A0 n0 c0 A1 n1 c1) (hg : w.grownBy w' (some g)) : Rd w' A c xs := by
  refine ⟨⟨h.row.1, h.row.2.1, fun hn => ?_⟩, h.cap⟩
  obtain ⟨ad, e, hc⟩ := h.row.2.2 hn
  refine ⟨ad, e, fun j p hj => ?_⟩
  obtain ⟨cs, hs, hr, hcell⟩ := hc j p hj
  refine ⟨cs, hs, hr, fun i u hu => ?_⟩
  have hold := hcell i u hu
  have hu2 : u = .int .i64 p := by
    have hr2 : cs = [Value.int .i64 p] := hr
    subst hr2
    cases i with
    | zero => exact (Option.some.inj hu).symm
    | succ i => cases hu
  by_cases hb : (ad.add (j * (Kd.int .i64).sz + i)).block = g
  · exfalso
    unfold World.cell? at hold
    rw [hb, hk, hu2] at hold
    simp only at hold
    split at hold
    · cases hold
    · generalize (ad.add (j * (Kd.int .i64).sz + i)).off = o at hold
      match o with
      | 0 => simp at hold
      | 1 => simp at hold
      | o + 2 => simp at hold
  · rw [World.cell?_of_block (w := w) (hg.block _ (by
      unfold World.cell? at hold
      split at hold
      · rename_i h1; exact blk_lt h1
      · cases hold) (fun e => hb (Option.some.inj e)))]
    exact hold
theorem Bx.step {w w' : World} {g : Nat} {A0 A1 : Option Addr} {n0 c0 n1 c1 : Nat} (h : Bx w g A0 n0 c0 A1 n1 c1) (hb : Below w.heap.size w w') : Bx w' g A0 n0 c0 A1 n1 c1 := blk_below h hb
theorem Bx.put {w w' : World} {g g' : Nat} {A0 A1 : Option Addr} {n0 c0 n1 c1 : Nat} (h : Bx w g A0 n0 c0 A1 n1 c1) (hg : w.grownBy w' (some g')) (hne : g ≠ g') : Bx w' g A0 n0 c0 A1 n1 c1 := grown_blk hg h (fun e => hne (Option.some.inj e))
theorem Bx.lt {w : World} {g : Nat} {A0 A1 : Option Addr} {n0 c0 n1 c1 : Nat} (h : Bx w g A0 n0 c0 A1 n1 c1) : g < w.heap.size := blk_lt h
theorem Bx.c0 {w : World} {g : Nat} {A0 A1 : Option Addr} {n0 c0 n1 c1 : Nat} (h : Bx w g A0 n0 c0 A1 n1 c1) : w.cell? ⟨g, 0, none⟩ = some (.slice A0 n0 c0) := (blk_cell h 0).trans rfl
theorem Bx.c1 {w : World} {g : Nat} {A0 A1 : Option Addr} {n0 c0 n1 c1 : Nat} (h : Bx w g A0 n0 c0 A1 n1 c1) : w.cell? ⟨g, 1, none⟩ = some (.slice A1 n1 c1) := (blk_cell h 1).trans rfl
theorem info24 : (Try.prog.info? 24).map (·.size) = some 2 := by kernel_rfl
theorem slices_one (A0 A1 : Option Addr) (n0 c0 n1 c1 : Nat) : (#[Value.slice A0 n0 c0, .slice A1 n1 c1] : Array Value).all (·.oneCell') = true := by simp [Value.oneCell']

theorem awake_vals : ∃ (p0 p1 a0 a1 b0 b1 l y1 y2 y3 y4 y5 : List Int), split_Whole.f 40 2 = some (p0, p1, 0) ∧ split_Halve.f 40 p0 p1 1 = some (a0, a1, b0, b1, 0) ∧ split_Way.f 40 b0 b1 = some (1, 0) ∧ split_Ends.f 40 b0 b1 y1 1 = some (l, 0) ∧
    ambitref18_SameInts.f 40 l y2 = some true ∧ split_Check.f 40 p0 p1 2 = some 0 ∧ decide (Win a0 a1 y3 0) = true ∧ decide (Win b0 b1 y4 0) = false ∧ ambitref18_SameInts.f 40 b1 y5 = some true ∧
    y1 = [1, -1] ∧ y2 = [2, 0] ∧ y3 = [0, -1] ∧ y4 = [0, -1] ∧ y5 = [0, 1] :=
  ⟨[0, 0], [0, 0], [0, 1], [0, 0], [0, 1], [0, 1], [2, 0], _, _, _, _, _, by kernel_rfl, by kernel_rfl, by kernel_rfl, by kernel_rfl, by kernel_rfl, by kernel_rfl, by decide +kernel, by decide +kernel, by kernel_rfl, rfl, rfl, rfl, rfl, rfl⟩
end Go.Proofs.Ytlidbaejhmamjaa.LW

/-! awake, walked. -/
namespace Go.Proofs.Ytlidbaejhmamjaa.LW
open Go.RowKit Go.Proofs.YtlidbaejhmamjaaW.PrintWords Go.Proofs.YtlidbaejhmamjaaW.PrintLast Go.Proofs.YtlidbaejhmamjaaW.PrintMore Go.Proofs.Ytlidbaejhmamjaa.PB Go.Proofs.Ytlidbaejhmamjaa.LA Go.Proofs.Ytlidbaejhmamjaa.AC
set_option linter.unusedVariables false
set_option linter.unusedSimpArgs false
theorem drawn0_below {w w' : World} (h : Drawn0 w w') : Below w.heap.size w w' := by
  obtain ⟨n, rfl⟩ := h
  exact below_drewN (Below.refl _ _) n
set_option maxRecDepth 100000 in
set_option maxHeartbeats 4000000 in
theorem awake_calls (w : World) : Calls Try.prog 14 #[] w fun e w' => e = .returned (.bool true) ∧ Below w.heap.size w w' := by
  obtain ⟨p0, p1, a0, a1, b0, b1, l, y1, y2, y3, y4, y5, h1, h2, h3, h4, h5, h6, h7, h8, h9, e1, e2, e3, e4, e5⟩ := awake_vals
  have F1 := Aside0.mk h1
  have F2 := Aside0.mk h2
  have F3 := Aside0.mk h3
  have F4 := Aside0.mk h4
  have F5 := Aside0.mk h5
  have F6 := Aside0.mk h6
  have F7 := Aside0.mk h7
  have F8 := Aside0.mk h8
  have F9 := Aside0.mk h9
  have E1 := Aside0.mk e1
  have E2 := Aside0.mk e2
  have E3 := Aside0.mk e3
  have E4 := Aside0.mk e4
  have E5 := Aside0.mk e5
  have HI3 := Aside0.mk (show I64 y3 by rw [e3]; intro x hx; simp at hx; omega)
  have HI4 := Aside0.mk (show I64 y4 by rw [e4]; intro x hx; simp at hx; omega)
  clear h1 h2 h3 h4 h5 h6 h7 h8 h9 e1 e2 e3 e4 e5
  have hu24 := Try.underlying24
  have HB := Aside0.mk (Below.refl w.heap.size w)
  go_enter Try.func14, Try.ntmps14
  go_wp2_with fail
  refine (split_Whole.calls 40 2 p0 p1 0 w F1.out).mono ?_
  rintro e w1 ⟨v0, v1, rfl, h0, h1, hb⟩
  obtain ⟨A_p0, c_p0, rfl, r_p0⟩ := Rd.of_R h0
  obtain ⟨A_p1, c_p1, rfl, r_p1⟩ := Rd.of_R h1
  replace HB := Aside0.mk (below_step HB.out hb)
  have R_p0 := Aside0.mk r_p0
  have R_p1 := Aside0.mk r_p1
  clear hb r_p0 h0 r_p1 h1
  go_wp2_with (first
    | ((with_reducible refine gate_dst (N := 1) rfl ?_); refine box_event rfl (N := 1) rfl (cs := #[.slice none 0 0, .slice none 0 0]) (t := 24) ?hr ?_; (case hr => first | (go_simp; done) | (go_simp; rfl)); intro g_p hg_ w2 hw_ hb_; have L_p := Aside0.mk (show w.heap.size ≤ g_p by have := HB.out.size; omega); replace R_p0 := Aside0.mk (R_p0.out.step hb_); replace R_p1 := Aside0.mk (R_p1.out.step hb_); replace HB := Aside0.mk (below_step HB.out hb_); have K_p := Aside0.mk (show Bx w2 g_p none 0 0 none 0 0 from hw_); clear hg_ hw_ hb_)
    | ((with_reducible refine gate_store (t := 24) (p := 1) rfl ?_); refine store_row_event rfl 24 rfl rfl g_p #[.slice A_p0 p0.length c_p0, .slice A_p1 p1.length c_p1] rfl rfl 24 _ K_p.out (info24.trans rfl) rfl (slices_one _ _ _ _ _ _) ?_; intro w3 hw_ hg_; replace R_p0 := Aside0.mk (R_p0.out.put K_p.out hg_); replace R_p1 := Aside0.mk (R_p1.out.put K_p.out hg_); replace HB := Aside0.mk (HB.out.grown hg_ HB.out.size (fun k_ hk_ => by cases hk_; exact L_p.out)); replace K_p := Aside0.mk (show Bx w3 g_p A_p0 p0.length c_p0 A_p1 p1.length c_p1 from hw_); clear hw_ hg_; have c_p_0 := K_p.out.c0; have c_p_1 := K_p.out.c1)
    | fail)
  refine (split_Halve.calls 40 A_p0 c_p0 p0 A_p1 c_p1 p1 1 a0 a1 b0 b1 0 w3 R_p0.out.row R_p0.out.cap R_p1.out.row R_p1.out.cap F2.out).mono ?_
  rintro e w4 ⟨v0, v1, v2, v3, rfl, h0, h1, h2, h3, hb⟩
  clear c_p_0 c_p_1
  obtain ⟨A_a0, c_a0, rfl, r_a0⟩ := Rd.of_R h0
  obtain ⟨A_a1, c_a1, rfl, r_a1⟩ := Rd.of_R h1
  obtain ⟨A_b0, c_b0, rfl, r_b0⟩ := Rd.of_R h2
  obtain ⟨A_b1, c_b1, rfl, r_b1⟩ := Rd.of_R h3
  replace R_p0 := Aside0.mk (R_p0.out.step hb); replace R_p1 := Aside0.mk (R_p1.out.step hb); replace K_p := Aside0.mk (K_p.out.step hb); replace HB := Aside0.mk (below_step HB.out hb)
  have R_a0 := Aside0.mk r_a0
  have R_a1 := Aside0.mk r_a1
  have R_b0 := Aside0.mk r_b0
  have R_b1 := Aside0.mk r_b1
  clear hb r_a0 h0 r_a1 h1 r_b0 h2 r_b1 h3
  go_wp2_with (first
    | ((with_reducible refine gate_dst (N := 3) rfl ?_); refine box_event rfl (N := 3) rfl (cs := #[.slice none 0 0, .slice none 0 0]) (t := 24) ?hr ?_; (case hr => first | (go_simp; done) | (go_simp; rfl)); intro g_a hg_ w5 hw_ hb_; have N_a_p := Aside0.mk (show g_p ≠ g_a by have := K_p.out.lt; omega); have L_a := Aside0.mk (show w.heap.size ≤ g_a by have := HB.out.size; omega); replace R_p0 := Aside0.mk (R_p0.out.step hb_); replace R_p1 := Aside0.mk (R_p1.out.step hb_); replace R_a0 := Aside0.mk (R_a0.out.step hb_); replace R_a1 := Aside0.mk (R_a1.out.step hb_); replace R_b0 := Aside0.mk (R_b0.out.step hb_); replace R_b1 := Aside0.mk (R_b1.out.step hb_); replace K_p := Aside0.mk (K_p.out.step hb_); replace HB := Aside0.mk (below_step HB.out hb_); have K_a := Aside0.mk (show Bx w5 g_a none 0 0 none 0 0 from hw_); clear hg_ hw_ hb_)
    | ((with_reducible refine gate_dst (N := 4) rfl ?_); refine box_event rfl (N := 4) rfl (cs := #[.slice none 0 0, .slice none 0 0]) (t := 24) ?hr ?_; (case hr => first | (go_simp; done) | (go_simp; rfl)); intro g_b hg_ w6 hw_ hb_; have N_b_p := Aside0.mk (show g_p ≠ g_b by have := K_p.out.lt; omega); have N_b_a := Aside0.mk (show g_a ≠ g_b by have := K_a.out.lt; omega); have L_b := Aside0.mk (show w.heap.size ≤ g_b by have := HB.out.size; omega); replace R_p0 := Aside0.mk (R_p0.out.step hb_); replace R_p1 := Aside0.mk (R_p1.out.step hb_); replace R_a0 := Aside0.mk (R_a0.out.step hb_); replace R_a1 := Aside0.mk (R_a1.out.step hb_); replace R_b0 := Aside0.mk (R_b0.out.step hb_); replace R_b1 := Aside0.mk (R_b1.out.step hb_); replace K_p := Aside0.mk (K_p.out.step hb_); replace K_a := Aside0.mk (K_a.out.step hb_); replace HB := Aside0.mk (below_step HB.out hb_); have K_b := Aside0.mk (show Bx w6 g_b none 0 0 none 0 0 from hw_); clear hg_ hw_ hb_)
    | ((with_reducible refine gate_store (t := 24) (p := 3) rfl ?_); refine store_row_event rfl 24 rfl rfl g_a #[.slice A_a0 a0.length c_a0, .slice A_a1 a1.length c_a1] rfl rfl 24 _ K_a.out (info24.trans rfl) rfl (slices_one _ _ _ _ _ _) ?_; intro w7 hw_ hg_; replace R_p0 := Aside0.mk (R_p0.out.put K_a.out hg_); replace R_p1 := Aside0.mk (R_p1.out.put K_a.out hg_); replace R_a0 := Aside0.mk (R_a0.out.put K_a.out hg_); replace R_a1 := Aside0.mk (R_a1.out.put K_a.out hg_); replace R_b0 := Aside0.mk (R_b0.out.put K_a.out hg_); replace R_b1 := Aside0.mk (R_b1.out.put K_a.out hg_); replace K_p := Aside0.mk (K_p.out.put hg_ N_a_p.out); replace K_b := Aside0.mk (K_b.out.put hg_ N_b_a.out.symm); replace HB := Aside0.mk (HB.out.grown hg_ HB.out.size (fun k_ hk_ => by cases hk_; exact L_a.out)); replace K_a := Aside0.mk (show Bx w7 g_a A_a0 a0.length c_a0 A_a1 a1.length c_a1 from hw_); clear hw_ hg_; have c_a_0 := K_a.out.c0; have c_a_1 := K_a.out.c1)
    | ((with_reducible refine gate_store (t := 24) (p := 4) rfl ?_); refine store_row_event rfl 24 rfl rfl g_b #[.slice A_b0 b0.length c_b0, .slice A_b1 b1.length c_b1] rfl rfl 24 _ K_b.out (info24.trans rfl) rfl (slices_one _ _ _ _ _ _) ?_; intro w8 hw_ hg_; replace R_p0 := Aside0.mk (R_p0.out.put K_b.out hg_); replace R_p1 := Aside0.mk (R_p1.out.put K_b.out hg_); replace R_a0 := Aside0.mk (R_a0.out.put K_b.out hg_); replace R_a1 := Aside0.mk (R_a1.out.put K_b.out hg_); replace R_b0 := Aside0.mk (R_b0.out.put K_b.out hg_); replace R_b1 := Aside0.mk (R_b1.out.put K_b.out hg_); replace K_p := Aside0.mk (K_p.out.put hg_ N_b_p.out); replace K_a := Aside0.mk (K_a.out.put hg_ N_b_a.out); replace HB := Aside0.mk (HB.out.grown hg_ HB.out.size (fun k_ hk_ => by cases hk_; exact L_b.out)); replace K_b := Aside0.mk (show Bx w8 g_b A_b0 b0.length c_b0 A_b1 b1.length c_b1 from hw_); clear hw_ hg_; have c_b_0 := K_b.out.c0; have c_b_1 := K_b.out.c1)
    | fail)
  refine (split_Way.calls 40 A_b0 c_b0 b0 A_b1 c_b1 b1 1 0 w8 R_b0.out.row R_b0.out.cap R_b1.out.row R_b1.out.cap F3.out).mono ?_
  rintro e w9 ⟨rfl, hb⟩
  clear c_a_0 c_a_1 c_b_0 c_b_1
  replace R_p0 := Aside0.mk (R_p0.out.step hb); replace R_p1 := Aside0.mk (R_p1.out.step hb); replace R_a0 := Aside0.mk (R_a0.out.step hb); replace R_a1 := Aside0.mk (R_a1.out.step hb); replace R_b0 := Aside0.mk (R_b0.out.step hb); replace R_b1 := Aside0.mk (R_b1.out.step hb); replace K_p := Aside0.mk (K_p.out.step hb); replace K_a := Aside0.mk (K_a.out.step hb); replace K_b := Aside0.mk (K_b.out.step hb); replace HB := Aside0.mk (below_step HB.out hb)
  clear hb
  have c_b_0 := K_b.out.c0
  have c_b_1 := K_b.out.c1
  go_wp2_with (first
    | ((with_reducible refine gate_dst (N := 27) rfl ?_); (try (refine gate_guard (by rfl) ?_; dsimp only)); refine Kd.R_lit (Kd.int .i64) _ 3 ?hg (N := 27) ?hd (xs := ([1, (-1)] : List Int)) (inner := [.int .i64 1, .int .i64 (-1)]) (ok := fun _ => True) (okp := fun _ => True) ?hr ?hp (fun _ hk => hk) trivial (Below.refl _ _) (Nat.le_refl _) (by simp) ?_; (case hd => rfl); (case hg => rfl); (case hr => first | (go_simp; done) | (go_simp; rfl)); (case hp => exact (Reps.one (show Kd.M (Kd.int .i64) _ _ _ 1 [.int .i64 1] from rfl) (Reps.one (show Kd.M (Kd.int .i64) _ _ _ (-1) [.int .i64 (-1)] from rfl) (Reps.none _ _)))); intro v_ w10 ho_ hb_ hg_ hnew_; clear hg_ hnew_; rw [← E1.out] at ho_; obtain ⟨A_y1, c_y1, rfl, hr_⟩ := Rd.of_R ho_; replace R_p0 := Aside0.mk (R_p0.out.step hb_); replace R_p1 := Aside0.mk (R_p1.out.step hb_); replace R_a0 := Aside0.mk (R_a0.out.step hb_); replace R_a1 := Aside0.mk (R_a1.out.step hb_); replace R_b0 := Aside0.mk (R_b0.out.step hb_); replace R_b1 := Aside0.mk (R_b1.out.step hb_); replace K_p := Aside0.mk (K_p.out.step hb_); replace K_a := Aside0.mk (K_a.out.step hb_); replace K_b := Aside0.mk (K_b.out.step hb_); replace HB := Aside0.mk (below_step HB.out hb_); have R_y1 := Aside0.mk hr_; clear ho_ hb_ hr_)
    | fail)
  refine (split_Ends.calls 40 A_b0 c_b0 b0 A_b1 c_b1 b1 A_y1 c_y1 y1 1 l 0 w10 R_b0.out.row R_b0.out.cap R_b1.out.row R_b1.out.cap R_y1.out.row R_y1.out.cap F4.out).mono ?_
  rintro e w11 ⟨v0, rfl, h0, hb⟩
  clear c_b_0 c_b_1
  obtain ⟨A_l, c_l, rfl, r_l⟩ := Rd.of_R h0
  replace R_p0 := Aside0.mk (R_p0.out.step hb); replace R_p1 := Aside0.mk (R_p1.out.step hb); replace R_a0 := Aside0.mk (R_a0.out.step hb); replace R_a1 := Aside0.mk (R_a1.out.step hb); replace R_b0 := Aside0.mk (R_b0.out.step hb); replace R_b1 := Aside0.mk (R_b1.out.step hb); replace R_y1 := Aside0.mk (R_y1.out.step hb); replace K_p := Aside0.mk (K_p.out.step hb); replace K_a := Aside0.mk (K_a.out.step hb); replace K_b := Aside0.mk (K_b.out.step hb); replace HB := Aside0.mk (below_step HB.out hb)
  have R_l := Aside0.mk r_l
  clear hb r_l h0
  go_wp2_with (first
    | ((with_reducible refine gate_dst (N := 51) rfl ?_); (try (refine gate_guard (by rfl) ?_; dsimp only)); refine Kd.R_lit (Kd.int .i64) _ 3 ?hg (N := 51) ?hd (xs := ([2, 0] : List Int)) (inner := [.int .i64 2, .int .i64 0]) (ok := fun _ => True) (okp := fun _ => True) ?hr ?hp (fun _ hk => hk) trivial (Below.refl _ _) (Nat.le_refl _) (by simp) ?_; (case hd => rfl); (case hg => rfl); (case hr => first | (go_simp; done) | (go_simp; rfl)); (case hp => exact (Reps.one (show Kd.M (Kd.int .i64) _ _ _ 2 [.int .i64 2] from rfl) (Reps.one (show Kd.M (Kd.int .i64) _ _ _ 0 [.int .i64 0] from rfl) (Reps.none _ _)))); intro v_ w12 ho_ hb_ hg_ hnew_; clear hg_ hnew_; rw [← E2.out] at ho_; obtain ⟨A_y2, c_y2, rfl, hr_⟩ := Rd.of_R ho_; replace R_p0 := Aside0.mk (R_p0.out.step hb_); replace R_p1 := Aside0.mk (R_p1.out.step hb_); replace R_a0 := Aside0.mk (R_a0.out.step hb_); replace R_a1 := Aside0.mk (R_a1.out.step hb_); replace R_b0 := Aside0.mk (R_b0.out.step hb_); replace R_b1 := Aside0.mk (R_b1.out.step hb_); replace R_y1 := Aside0.mk (R_y1.out.step hb_); replace R_l := Aside0.mk (R_l.out.step hb_); replace K_p := Aside0.mk (K_p.out.step hb_); replace K_a := Aside0.mk (K_a.out.step hb_); replace K_b := Aside0.mk (K_b.out.step hb_); replace HB := Aside0.mk (below_step HB.out hb_); have R_y2 := Aside0.mk hr_; clear ho_ hb_ hr_)
    | fail)
  refine (ambitref18_SameInts.calls 40 A_l c_l l A_y2 c_y2 y2 true w12 R_l.out.row R_l.out.cap R_y2.out.row R_y2.out.cap F5.out).mono ?_
  rintro e w13 ⟨rfl, hd⟩
  have hb := drawn0_below hd
  clear hd
  replace R_p0 := Aside0.mk (R_p0.out.step hb); replace R_p1 := Aside0.mk (R_p1.out.step hb); replace R_a0 := Aside0.mk (R_a0.out.step hb); replace R_a1 := Aside0.mk (R_a1.out.step hb); replace R_b0 := Aside0.mk (R_b0.out.step hb); replace R_b1 := Aside0.mk (R_b1.out.step hb); replace R_y1 := Aside0.mk (R_y1.out.step hb); replace R_l := Aside0.mk (R_l.out.step hb); replace R_y2 := Aside0.mk (R_y2.out.step hb); replace K_p := Aside0.mk (K_p.out.step hb); replace K_a := Aside0.mk (K_a.out.step hb); replace K_b := Aside0.mk (K_b.out.step hb); replace HB := Aside0.mk (below_step HB.out hb)
  clear hb
  have c_p_0 := K_p.out.c0
  have c_a_0 := K_a.out.c0
  have c_b_0 := K_b.out.c0
  have c_p_1 := K_p.out.c1
  have c_a_1 := K_a.out.c1
  have c_b_1 := K_b.out.c1
  go_wp2_with fail
  refine (split_Check.calls 40 A_p0 c_p0 p0 A_p1 c_p1 p1 2 0 w13 R_p0.out.row R_p0.out.cap R_p1.out.row R_p1.out.cap F6.out).mono ?_
  rintro e w14 ⟨rfl, hb⟩
  clear c_p_0 c_p_1 c_a_0 c_a_1 c_b_0 c_b_1
  replace R_p0 := Aside0.mk (R_p0.out.step hb); replace R_p1 := Aside0.mk (R_p1.out.step hb); replace R_a0 := Aside0.mk (R_a0.out.step hb); replace R_a1 := Aside0.mk (R_a1.out.step hb); replace R_b0 := Aside0.mk (R_b0.out.step hb); replace R_b1 := Aside0.mk (R_b1.out.step hb); replace R_y1 := Aside0.mk (R_y1.out.step hb); replace R_l := Aside0.mk (R_l.out.step hb); replace R_y2 := Aside0.mk (R_y2.out.step hb); replace K_p := Aside0.mk (K_p.out.step hb); replace K_a := Aside0.mk (K_a.out.step hb); replace K_b := Aside0.mk (K_b.out.step hb); replace HB := Aside0.mk (below_step HB.out hb)
  clear hb
  have c_p_0 := K_p.out.c0
  have c_a_0 := K_a.out.c0
  have c_b_0 := K_b.out.c0
  have c_p_1 := K_p.out.c1
  have c_a_1 := K_a.out.c1
  have c_b_1 := K_b.out.c1
  go_wp2_with (first
    | ((with_reducible refine gate_dst (N := 60) rfl ?_); (try (refine gate_guard (by rfl) ?_; dsimp only)); refine Kd.R_lit (Kd.int .i64) _ 3 ?hg (N := 60) ?hd (xs := ([0, (-1)] : List Int)) (inner := [.int .i64 0, .int .i64 (-1)]) (ok := fun _ => True) (okp := fun _ => True) ?hr ?hp (fun _ hk => hk) trivial (Below.refl _ _) (Nat.le_refl _) (by simp) ?_; (case hd => rfl); (case hg => rfl); (case hr => first | (go_simp; done) | (go_simp; rfl)); (case hp => exact (Reps.one (show Kd.M (Kd.int .i64) _ _ _ 0 [.int .i64 0] from rfl) (Reps.one (show Kd.M (Kd.int .i64) _ _ _ (-1) [.int .i64 (-1)] from rfl) (Reps.none _ _)))); intro v_ w15 ho_ hb_ hg_ hnew_; clear hg_ hnew_; rw [← E3.out] at ho_; obtain ⟨A_y3, c_y3, rfl, hr_⟩ := Rd.of_R ho_; replace R_p0 := Aside0.mk (R_p0.out.step hb_); replace R_p1 := Aside0.mk (R_p1.out.step hb_); replace R_a0 := Aside0.mk (R_a0.out.step hb_); replace R_a1 := Aside0.mk (R_a1.out.step hb_); replace R_b0 := Aside0.mk (R_b0.out.step hb_); replace R_b1 := Aside0.mk (R_b1.out.step hb_); replace R_y1 := Aside0.mk (R_y1.out.step hb_); replace R_l := Aside0.mk (R_l.out.step hb_); replace R_y2 := Aside0.mk (R_y2.out.step hb_); replace K_p := Aside0.mk (K_p.out.step hb_); replace K_a := Aside0.mk (K_a.out.step hb_); replace K_b := Aside0.mk (K_b.out.step hb_); replace HB := Aside0.mk (below_step HB.out hb_); have R_y3 := Aside0.mk hr_; clear ho_ hb_ hr_)
    | fail)
  refine (within_calls A_a0 c_a0 a0 A_a1 c_a1 a1 A_y3 c_y3 y3 0 w15 R_a0.out.row R_a0.out.cap R_a1.out.row R_a1.out.cap R_y3.out.row R_y3.out.cap HI3.out).mono ?_
  rw [F7.out]
  rintro e w16 ⟨rfl, hb⟩
  clear c_p_0 c_p_1 c_a_0 c_a_1 c_b_0 c_b_1
  replace R_p0 := Aside0.mk (R_p0.out.step hb); replace R_p1 := Aside0.mk (R_p1.out.step hb); replace R_a0 := Aside0.mk (R_a0.out.step hb); replace R_a1 := Aside0.mk (R_a1.out.step hb); replace R_b0 := Aside0.mk (R_b0.out.step hb); replace R_b1 := Aside0.mk (R_b1.out.step hb); replace R_y1 := Aside0.mk (R_y1.out.step hb); replace R_l := Aside0.mk (R_l.out.step hb); replace R_y2 := Aside0.mk (R_y2.out.step hb); replace R_y3 := Aside0.mk (R_y3.out.step hb); replace K_p := Aside0.mk (K_p.out.step hb); replace K_a := Aside0.mk (K_a.out.step hb); replace K_b := Aside0.mk (K_b.out.step hb); replace HB := Aside0.mk (below_step HB.out hb)
  clear hb
  have c_p_0 := K_p.out.c0
  have c_a_0 := K_a.out.c0
  have c_b_0 := K_b.out.c0
  have c_p_1 := K_p.out.c1
  have c_a_1 := K_a.out.c1
  have c_b_1 := K_b.out.c1
  go_wp2_with (first
    | ((with_reducible refine gate_dst (N := 65) rfl ?_); (try (refine gate_guard (by rfl) ?_; dsimp only)); refine Kd.R_lit (Kd.int .i64) _ 3 ?hg (N := 65) ?hd (xs := ([0, (-1)] : List Int)) (inner := [.int .i64 0, .int .i64 (-1)]) (ok := fun _ => True) (okp := fun _ => True) ?hr ?hp (fun _ hk => hk) trivial (Below.refl _ _) (Nat.le_refl _) (by simp) ?_; (case hd => rfl); (case hg => rfl); (case hr => first | (go_simp; done) | (go_simp; rfl)); (case hp => exact (Reps.one (show Kd.M (Kd.int .i64) _ _ _ 0 [.int .i64 0] from rfl) (Reps.one (show Kd.M (Kd.int .i64) _ _ _ (-1) [.int .i64 (-1)] from rfl) (Reps.none _ _)))); intro v_ w17 ho_ hb_ hg_ hnew_; clear hg_ hnew_; rw [← E4.out] at ho_; obtain ⟨A_y4, c_y4, rfl, hr_⟩ := Rd.of_R ho_; replace R_p0 := Aside0.mk (R_p0.out.step hb_); replace R_p1 := Aside0.mk (R_p1.out.step hb_); replace R_a0 := Aside0.mk (R_a0.out.step hb_); replace R_a1 := Aside0.mk (R_a1.out.step hb_); replace R_b0 := Aside0.mk (R_b0.out.step hb_); replace R_b1 := Aside0.mk (R_b1.out.step hb_); replace R_y1 := Aside0.mk (R_y1.out.step hb_); replace R_l := Aside0.mk (R_l.out.step hb_); replace R_y2 := Aside0.mk (R_y2.out.step hb_); replace R_y3 := Aside0.mk (R_y3.out.step hb_); replace K_p := Aside0.mk (K_p.out.step hb_); replace K_a := Aside0.mk (K_a.out.step hb_); replace K_b := Aside0.mk (K_b.out.step hb_); replace HB := Aside0.mk (below_step HB.out hb_); have R_y4 := Aside0.mk hr_; clear ho_ hb_ hr_)
    | fail)
  refine (within_calls A_b0 c_b0 b0 A_b1 c_b1 b1 A_y4 c_y4 y4 0 w17 R_b0.out.row R_b0.out.cap R_b1.out.row R_b1.out.cap R_y4.out.row R_y4.out.cap HI4.out).mono ?_
  rw [F8.out]
  rintro e w18 ⟨rfl, hb⟩
  clear c_p_0 c_p_1 c_a_0 c_a_1 c_b_0 c_b_1
  replace R_p0 := Aside0.mk (R_p0.out.step hb); replace R_p1 := Aside0.mk (R_p1.out.step hb); replace R_a0 := Aside0.mk (R_a0.out.step hb); replace R_a1 := Aside0.mk (R_a1.out.step hb); replace R_b0 := Aside0.mk (R_b0.out.step hb); replace R_b1 := Aside0.mk (R_b1.out.step hb); replace R_y1 := Aside0.mk (R_y1.out.step hb); replace R_l := Aside0.mk (R_l.out.step hb); replace R_y2 := Aside0.mk (R_y2.out.step hb); replace R_y3 := Aside0.mk (R_y3.out.step hb); replace R_y4 := Aside0.mk (R_y4.out.step hb); replace K_p := Aside0.mk (K_p.out.step hb); replace K_a := Aside0.mk (K_a.out.step hb); replace K_b := Aside0.mk (K_b.out.step hb); replace HB := Aside0.mk (below_step HB.out hb)
  clear hb
  have c_p_0 := K_p.out.c0
  have c_a_0 := K_a.out.c0
  have c_b_0 := K_b.out.c0
  have c_p_1 := K_p.out.c1
  have c_a_1 := K_a.out.c1
  have c_b_1 := K_b.out.c1
  go_wp2_with (first
    | ((with_reducible refine gate_dst (N := 72) rfl ?_); (try (refine gate_guard (by rfl) ?_; dsimp only)); refine Kd.R_lit (Kd.int .i64) _ 3 ?hg (N := 72) ?hd (xs := ([0, 1] : List Int)) (inner := [.int .i64 0, .int .i64 1]) (ok := fun _ => True) (okp := fun _ => True) ?hr ?hp (fun _ hk => hk) trivial (Below.refl _ _) (Nat.le_refl _) (by simp) ?_; (case hd => rfl); (case hg => rfl); (case hr => first | (go_simp; done) | (go_simp; rfl)); (case hp => exact (Reps.one (show Kd.M (Kd.int .i64) _ _ _ 0 [.int .i64 0] from rfl) (Reps.one (show Kd.M (Kd.int .i64) _ _ _ 1 [.int .i64 1] from rfl) (Reps.none _ _)))); intro v_ w19 ho_ hb_ hg_ hnew_; clear hg_ hnew_; rw [← E5.out] at ho_; obtain ⟨A_y5, c_y5, rfl, hr_⟩ := Rd.of_R ho_; replace R_p0 := Aside0.mk (R_p0.out.step hb_); replace R_p1 := Aside0.mk (R_p1.out.step hb_); replace R_a0 := Aside0.mk (R_a0.out.step hb_); replace R_a1 := Aside0.mk (R_a1.out.step hb_); replace R_b0 := Aside0.mk (R_b0.out.step hb_); replace R_b1 := Aside0.mk (R_b1.out.step hb_); replace R_y1 := Aside0.mk (R_y1.out.step hb_); replace R_l := Aside0.mk (R_l.out.step hb_); replace R_y2 := Aside0.mk (R_y2.out.step hb_); replace R_y3 := Aside0.mk (R_y3.out.step hb_); replace R_y4 := Aside0.mk (R_y4.out.step hb_); replace K_p := Aside0.mk (K_p.out.step hb_); replace K_a := Aside0.mk (K_a.out.step hb_); replace K_b := Aside0.mk (K_b.out.step hb_); replace HB := Aside0.mk (below_step HB.out hb_); have R_y5 := Aside0.mk hr_; clear ho_ hb_ hr_)
    | fail)
  refine (ambitref18_SameInts.calls 40 A_b1 c_b1 b1 A_y5 c_y5 y5 true w19 R_b1.out.row R_b1.out.cap R_y5.out.row R_y5.out.cap F9.out).mono ?_
  rintro e w20 ⟨rfl, hd⟩
  have hb := drawn0_below hd
  clear hd
  replace HB := Aside0.mk (below_step HB.out hb)
  clear hb
  clear c_p_0 c_p_1 c_a_0 c_a_1 c_b_0 c_b_1
  go_wp2_with fail
  go_ret
  exact ⟨by first | done | rfl, HB.out⟩
end Go.Proofs.Ytlidbaejhmamjaa.LW

/-! SplitWhole, walked. -/
namespace Go.Proofs.Ytlidbaejhmamjaa.LW
open Go.RowKit Go.Proofs.YtlidbaejhmamjaaW.PrintWords Go.Proofs.YtlidbaejhmamjaaW.PrintLast Go.Proofs.YtlidbaejhmamjaaW.PrintMore Go.Proofs.Ytlidbaejhmamjaa.PB Go.Proofs.Ytlidbaejhmamjaa.LA Go.Proofs.Ytlidbaejhmamjaa.AC
set_option linter.unusedVariables false
set_option linter.unusedSimpArgs false
set_option maxRecDepth 100000 in
set_option maxHeartbeats 4000000 in
theorem splitWhole_calls (a : Int) (w : World) : Calls Try.prog 3 #[.int .i64 a] w fun e w' => e = .returned (.bool true) ∧ Below w.heap.size w w' := by
  obtain ⟨k1, h1⟩ := (Whole_ev a).get
  obtain ⟨k2, h2⟩ := (refWhole_ev a).get
  obtain ⟨k3, h3⟩ := (Same_ev (wholeL a) (wholeL a) (wholeL a) (wholeL a) (by have := wholeL_length a; omega) (by have := wholeL_length a; omega)).get
  rw [decide_eq_true rfl] at h3
  generalize wholeL a = p at *
  generalize wholeE a = r at *
  have F1 := Aside0.mk h1
  have F2 := Aside0.mk h2
  have F3 := Aside0.mk h3
  clear h1 h2 h3
  have hu24 := Try.underlying24
  have HB := Aside0.mk (Below.refl w.heap.size w)
  go_enter Try.func3, Try.ntmps3
  go_wp2_with fail
  refine (split_Whole.calls k1 a p p r w F1.out).mono ?_
  rintro e w1 ⟨v0, v1, rfl, h0, h1, hb⟩
  obtain ⟨A_p0, c_p0, rfl, r_p0⟩ := Rd.of_R h0
  obtain ⟨A_p1, c_p1, rfl, r_p1⟩ := Rd.of_R h1
  replace HB := Aside0.mk (below_step HB.out hb)
  have R_p0 := Aside0.mk r_p0
  have R_p1 := Aside0.mk r_p1
  clear hb r_p0 h0 r_p1 h1
  go_wp2_with (first
    | ((with_reducible refine gate_dst (N := 3) rfl ?_); refine box_event rfl (N := 3) rfl (cs := #[.slice none 0 0, .slice none 0 0]) (t := 24) ?hr ?_; (case hr => first | (go_simp; done) | (go_simp; rfl)); intro g_p hg_ w2 hw_ hb_; have L_p := Aside0.mk (show w.heap.size ≤ g_p by have := HB.out.size; omega); replace R_p0 := Aside0.mk (R_p0.out.step hb_); replace R_p1 := Aside0.mk (R_p1.out.step hb_); replace HB := Aside0.mk (below_step HB.out hb_); have K_p := Aside0.mk (show Bx w2 g_p none 0 0 none 0 0 from hw_); clear hg_ hw_ hb_)
    | ((with_reducible refine gate_store (t := 24) (p := 3) rfl ?_); refine store_row_event rfl 24 rfl rfl g_p #[.slice A_p0 p.length c_p0, .slice A_p1 p.length c_p1] rfl rfl 24 _ K_p.out (info24.trans rfl) rfl (slices_one _ _ _ _ _ _) ?_; intro w3 hw_ hg_; replace R_p0 := Aside0.mk (R_p0.out.put K_p.out hg_); replace R_p1 := Aside0.mk (R_p1.out.put K_p.out hg_); replace HB := Aside0.mk (HB.out.grown hg_ HB.out.size (fun k_ hk_ => by cases hk_; exact L_p.out)); replace K_p := Aside0.mk (show Bx w3 g_p A_p0 p.length c_p0 A_p1 p.length c_p1 from hw_); clear hw_ hg_; have c_p_0 := K_p.out.c0; have c_p_1 := K_p.out.c1)
    | fail)
  refine (ambitref18_Whole.calls k2 a p p r w3 F2.out).mono ?_
  rintro e w4 ⟨v0, v1, rfl, h0, h1, hb⟩
  clear c_p_0 c_p_1
  obtain ⟨A_q0, c_q0, rfl, r_q0⟩ := Rd.of_R h0
  obtain ⟨A_q1, c_q1, rfl, r_q1⟩ := Rd.of_R h1
  replace R_p0 := Aside0.mk (R_p0.out.step hb); replace R_p1 := Aside0.mk (R_p1.out.step hb); replace K_p := Aside0.mk (K_p.out.step hb); replace HB := Aside0.mk (below_step HB.out hb)
  have R_q0 := Aside0.mk r_q0
  have R_q1 := Aside0.mk r_q1
  clear hb r_q0 h0 r_q1 h1
  go_wp2_with (first
    | ((with_reducible refine gate_dst (N := 5) rfl ?_); refine box_event rfl (N := 5) rfl (cs := #[.slice none 0 0, .slice none 0 0]) (t := 24) ?hr ?_; (case hr => first | (go_simp; done) | (go_simp; rfl)); intro g_q hg_ w5 hw_ hb_; have N_q_p := Aside0.mk (show g_p ≠ g_q by have := K_p.out.lt; omega); have L_q := Aside0.mk (show w.heap.size ≤ g_q by have := HB.out.size; omega); replace R_p0 := Aside0.mk (R_p0.out.step hb_); replace R_p1 := Aside0.mk (R_p1.out.step hb_); replace R_q0 := Aside0.mk (R_q0.out.step hb_); replace R_q1 := Aside0.mk (R_q1.out.step hb_); replace K_p := Aside0.mk (K_p.out.step hb_); replace HB := Aside0.mk (below_step HB.out hb_); have K_q := Aside0.mk (show Bx w5 g_q none 0 0 none 0 0 from hw_); clear hg_ hw_ hb_)
    | ((with_reducible refine gate_store (t := 24) (p := 5) rfl ?_); refine store_row_event rfl 24 rfl rfl g_q #[.slice A_q0 p.length c_q0, .slice A_q1 p.length c_q1] rfl rfl 24 _ K_q.out (info24.trans rfl) rfl (slices_one _ _ _ _ _ _) ?_; intro w6 hw_ hg_; replace R_p0 := Aside0.mk (R_p0.out.put K_q.out hg_); replace R_p1 := Aside0.mk (R_p1.out.put K_q.out hg_); replace R_q0 := Aside0.mk (R_q0.out.put K_q.out hg_); replace R_q1 := Aside0.mk (R_q1.out.put K_q.out hg_); replace K_p := Aside0.mk (K_p.out.put hg_ N_q_p.out); replace HB := Aside0.mk (HB.out.grown hg_ HB.out.size (fun k_ hk_ => by cases hk_; exact L_q.out)); replace K_q := Aside0.mk (show Bx w6 g_q A_q0 p.length c_q0 A_q1 p.length c_q1 from hw_); clear hw_ hg_; have c_q_0 := K_q.out.c0; have c_q_1 := K_q.out.c1; have c_p_0 := K_p.out.c0; have c_p_1 := K_p.out.c1)
    | fail)
  refine (ambitref18_Same.calls k3 A_p0 c_p0 p A_p1 c_p1 p A_q0 c_q0 p A_q1 c_q1 p _ w6 R_p0.out.row R_p0.out.cap R_p1.out.row R_p1.out.cap R_q0.out.row R_q0.out.cap R_q1.out.row R_q1.out.cap F3.out).mono ?_
  rintro e w7 ⟨rfl, hb⟩
  clear c_p_0 c_p_1 c_q_0 c_q_1
  replace HB := Aside0.mk (below_step HB.out hb)
  clear hb
  go_wp2_with fail
  refine (awake_calls w7).mono ?_
  rintro e w8 ⟨rfl, hb⟩
  replace HB := Aside0.mk (below_step HB.out hb)
  clear hb
  go_wp2_with fail
  go_ret
  exact ⟨by first | done | rfl, HB.out⟩
end Go.Proofs.Ytlidbaejhmamjaa.LW
