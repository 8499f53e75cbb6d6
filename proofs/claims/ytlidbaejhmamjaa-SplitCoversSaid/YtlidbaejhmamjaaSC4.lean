/- Part 4 of the proof of SplitCovers: what the functions below it compute, each shown by a walk or by plain reasoning; no condition of its own. -/
import Derived.Test.YtlidbaejhmamjaaSC1
import Derived.Test.YtlidbaejhmamjaaSC3
import Derived.Deep.SlicePairs
import Derived.Lib.SmallJoins
import Derived.ChangeSlices
import Derived.ProofKit
namespace Go.Proofs.Ytlidbaejhmamjaa.PB
open Go.RowKit Go.Proofs.YtlidbaejhmamjaaW.PrintWords Go.Proofs.YtlidbaejhmamjaaW.PrintLast Go.Proofs.YtlidbaejhmamjaaW.PrintMore
attribute [local go_sem] max2_int min2_int max_two min_two max_three min_three max_four min_four   -- for this text's walks alone
set_option linter.unusedVariables false
set_option linter.unusedSimpArgs false
mutual
def split_Ends.l0 : Nat → List Int → Int → List Int → Int → Int → List Int → List Int → Option (List Int × Int)
  | 0, _, _, _, _, _, _, _ => none
  | k + 1, x1, x2, x25, x26, x27, x187000, x187001 => if x27 < x26 then (if 0 ≤ x27 then (if x27 < (x25.length : Int) then (if (rd x25 x27) < (-1) then (some (([] : List Int), 1)) else (if (rd x25 x27) > 1 then (some (([] : List Int), 1)) else (split_Ends.l0 k x1 x2 x25 x26 (wrap64 (x27 + 1)) x187000 x187001))) else (none)) else (none)) else (if x2 < 0 then (split_Ends.j1 k x1 x2 true x187000 x187001) else (if x2 > 8 then (split_Ends.j1 k x1 x2 true x187000 x187001) else (if (x187000.length : Int) > 0 then ((slices_Max_int_int.f k x187000).bind fun t189 => (split_Ends.j1 k x1 x2 (decide (x2 < t189)) x187000 x187001)) else (split_Ends.j1 k x1 x2 false x187000 x187001))))
def split_Ends.j1 : Nat → List Int → Int → Bool → List Int → List Int → Option (List Int × Int)
  | 0, _, _, _, _, _ => none
  | k + 1, x1, x2, x56, x187000, x187001 => if x56 = true then (some (([] : List Int), 1)) else (if 0 ≤ (x1.length : Int) then (if ((x1.length : Int) : Int).toNat ≤ 35184372088832 then ((split_parts.f k x187000 x187001).bind fun t193 => (split_Ends.l1 k x1 x2 (List.replicate ((x1.length : Int) : Int).toNat 0) t193 (t193.length : Int) 0)) else (none)) else (none))
def split_Ends.l1 : Nat → List Int → Int → List Int → List (S90) → Int → Int → Option (List Int × Int)
  | 0, _, _, _, _, _, _ => none
  | k + 1, x1, x2, x10, x61, x62, x63 => if x63 < x62 then (if 0 ≤ x63 then (if x63 < (x61.length : Int) then (if 0 ≤ x2 then (if x63 < (x1.length : Int) then (if 0 ≤ (wrap64 (x2 - ((rd_T90 x61 x63).f0))) then (if x63 < (x10.length : Int) then (split_Ends.l1 k x1 x2 (x10.set (x63 : Int).toNat (wrap64 ((shl .i64 (-1) x2) + (shl .i64 (wrap64 ((wrap64 ((wrap64 (2 * ((rd_T90 x61 x63).f1))) + 1)) + (rd x1 x63))) (wrap64 (x2 - ((rd_T90 x61 x63).f0))))))) x61 x62 (wrap64 (x63 + 1))) else (none)) else (none)) else (none)) else (none)) else (none)) else (none)) else (some (x10, 0))
end
def split_Ends.f (k : Nat) (l0_0 : List Int) (l0_1 : List Int) (l1 : List Int) (a2 : Int) : Option (List Int × Int) := (split_Check.f k l0_0 l0_1 (l0_0.length : Int)).bind fun t187 => (if t187 = 0 then (if (l1.length : Int) = (l0_0.length : Int) then (split_Ends.l0 k l1 a2 l1 (l1.length : Int) 0 l0_0 l0_1) else (some (([] : List Int), 63))) else (some (([] : List Int), 180)))
def split_Ends.T17 : Bool × List (List Nat × List Nat) := (true, [([], []), ([], []), ([], []), ([2], [2]), ([], []), ([4], [4]), ([5], [5]), ([6], [6]), ([], []), ([], []), ([8, 9], [8, 9]), ([10], [10]), ([7, 11], [7, 11]), ([], []), ([], []), ([14], [14]), ([13, 15], [13, 15]), ([12, 16], [12, 16]), ([3, 17], [3, 17]), ([0, 1, 0, 1, 2, 3, 4, 5, 6, 7, 8, 9, 10, 11, 12, 13, 14, 15, 16, 17, 18], [0, 1]), ([19, 18, 0, 1, 2, 3, 4, 5, 6, 7, 8, 9, 10, 11, 12, 13, 14, 15, 16, 17, 18], [18, 19])])
def split_Ends.B17 : List Nat := [0, 0, 0, 4, 0, 16, 48, 112, 0, 0, 768, 1792, 4080, 0, 0, 16384, 57344, 131056, 262140, 524287, 1048575]
theorem split_Ends.tab17 : rtab .any (opsOf Try.f21 17) = split_Ends.T17 := by kernel_rfl
theorem split_Ends.bits17 : waitsOk split_Ends.T17.2 split_Ends.B17 = true := by kernel_rfl
set_option maxHeartbeats 8000000 in
set_option maxRecDepth 100000 in
theorem split_Ends.calls (k : Nat) (A0_0 : Option Addr) (c0_0 : Nat) (l0_0 : List Int) (A0_1 : Option Addr) (c0_1 : Nat) (l0_1 : List Int) (A1 : Option Addr) (c1 : Nat) (l1 : List Int) (a2 : Int) (r1 : List Int) (r2 : Int) (w : World) (hr0_0 : Kd.C (Kd.int .i64) w A0_0 l0_0.length l0_0) (hc0_0 : l0_0.length ≤ c0_0) (hr0_1 : Kd.C (Kd.int .i64) w A0_1 l0_1.length l0_1) (hc0_1 : l0_1.length ≤ c0_1) (hr1 : Kd.C (Kd.int .i64) w A1 l1.length l1) (hc1 : l1.length ≤ c1) (h : split_Ends.f k l0_0 l0_1 l1 a2 = some (r1, r2)) :
    Calls Try.prog 21 #[.agg #[.slice A0_0 l0_0.length c0_0, .slice A0_1 l0_1.length c0_1], .slice A1 l1.length c1, .int .i64 a2] w fun e w' => ∃ v0_ : Value, e = .returned (.tuple #[v0_, .int .i64 r2]) ∧ Kd.R (Kd.int .i64) 3 w' w.heap.size (fun _ => True) v0_ r1 ∧ Below w.heap.size w w' := by
  have hu24 := Try.underlying24
  have hu90 := Try.underlying90
  have HR0_0 := Aside0.mk hr0_0
  have HC0_0 := Aside0.mk hc0_0
  clear hr0_0 hc0_0
  have HR0_1 := Aside0.mk hr0_1
  have HC0_1 := Aside0.mk hc0_1
  clear hr0_1 hc0_1
  have HR1 := Aside0.mk hr1
  have HC1 := Aside0.mk hc1
  clear hr1 hc1
  have HB := Aside0.mk (Below.refl w.heap.size w)
  have H : ((split_Check.f k l0_0 l0_1 (l0_0.length : Int)).bind fun t187 => (if t187 = 0 then (if (l1.length : Int) = (l0_0.length : Int) then (split_Ends.l0 k l1 a2 l1 (l1.length : Int) 0 l0_0 l0_1) else (some (([] : List Int), 63))) else (some (([] : List Int), 180)))) = some (r1, r2) := h
  clear h
  replace H := Option.bind_eq_some_iff.mp H
  obtain ⟨t187, A40, H⟩ := H
  replace H : (if t187 = 0 then (if (l1.length : Int) = (l0_0.length : Int) then (split_Ends.l0 k l1 a2 l1 (l1.length : Int) 0 l0_0 l0_1) else (some (([] : List Int), 63))) else (some (([] : List Int), 180))) = some (r1, r2) := H
  have A4 := Aside0.mk A40
  clear A40
  by_cases c5 : t187 = 0
  · rw [if_pos c5] at H
    have c5b0 : (t187 == 0) = true := beq_iff_eq.mpr c5
    have c5b1 : (t187 != 0) = false := bne_eq_false_iff_eq.mpr c5
    clear c5
    by_cases c6 : (l1.length : Int) = (l0_0.length : Int)
    · rw [if_pos c6] at H
      have c6b0 : ((l1.length : Int) == (l0_0.length : Int)) = true := beq_iff_eq.mpr c6
      have c6b1 : ((l1.length : Int) != (l0_0.length : Int)) = false := bne_eq_false_iff_eq.mpr c6
      have c6b2 : (l1.length == l0_0.length) = true := by first | simpa using c6 | (simp at c6 ⊢; omega)
      clear c6
      have H' := Aside0.mk H
      clear H
      go_enter Try.func21, Try.ntmps21
      go_wp2_with (first | ((with_reducible refine gate_dst (N := 3) rfl ?_); (try (refine gate_guard (by rfl) ?_; dsimp only)); refine box_event ?hg (N := 3) ?hd (cs := #[.slice A0_0 l0_0.length c0_0, .slice A0_1 l0_1.length c0_1]) (t := 24) ?hr ?_; (case hd => rfl); (case hg => rfl); (case hr => first | (go_simp; done) | (go_simp; rfl)); intro gb186 hg w7 hbox hb; have n0_ := Aside0.mk (below_step (by repeat (first | (with_reducible first | exact HB.out | apply below_alloc | apply pw_below_drewN | apply below_drew1) | exact HB.out)) hb); have n1_ := Aside0.mk (hbox); have n2_ := Aside0.mk ((by rw [hg]; exact (below_size (by repeat (first | (with_reducible first | exact HB.out | apply below_alloc | apply pw_below_drewN | apply below_drew1) | exact HB.out))) : w.heap.size ≤ gb186)); have n3_ := Aside0.mk ((by rw [hg]; exact (below_size (by repeat (first | (with_reducible first | exact HB.out | apply below_alloc | apply pw_below_drewN | apply below_drew1) | exact HB.out))) : w.heap.size ≤ gb186)); clear HB; have HB := n0_; have BK186 := n1_; have GW186 := n2_; have GE186 := n3_; clear n0_ n1_ n2_ n3_; clear hb hbox hg; have hcz8_0 : w7.cell? ⟨gb186, 0, none⟩ = some (.slice A0_0 l0_0.length c0_0) := (blk_cell BK186.out 0).trans rfl; have hcz8_1 : w7.cell? ⟨gb186, 1, none⟩ = some (.slice A0_1 l0_1.length c0_1) := (blk_cell BK186.out 1).trans rfl; have hfz8_0 := blk_frozen BK186.out 0; have hfz8_1 := blk_frozen BK186.out 1) | ((with_reducible refine gate_callee (f := 17) rfl ?_); refine goesL_ (some 17) rfl rfl Try.func17 (by kernel_rfl) rfl #[.agg #[.slice A0_0 l0_0.length c0_0, .slice A0_1 l0_1.length c0_1], .int .i64 (l0_0.length : Int)] rfl (by (try simp only [List.map_toArray, List.map_cons, List.map_nil]); first | done | rfl | (simp only [List.length_drop, List.length_take]; rfl)) ?_; (with_reducible refine (split_Check.calls k _ _ l0_0 _ _ l0_1 (l0_0.length : Int) t187 _ ?side1 ?side2 ?side3 ?side4 A4.out).mono ?_); (case side1 => repeat (first | exact (Kd.C_below HR0_0.out HB.out) | (with_reducible refine Kd.C_alloc ?_ _) | (with_reducible refine Kd.C_drewN ?_ _) | (with_reducible refine Kd.C_drew ?_))); (case side2 => exact HC0_0.out); (case side3 => repeat (first | exact (Kd.C_below HR0_1.out HB.out) | (with_reducible refine Kd.C_alloc ?_ _) | (with_reducible refine Kd.C_drewN ?_ _) | (with_reducible refine Kd.C_drew ?_))); (case side4 => exact HC0_1.out); rintro e w9 ⟨rfl, hb⟩; refine ⟨_, rfl, ?_⟩; have n0_ := Aside0.mk (blk_below (g := gb186) (o := .cells #[.slice A0_0 l0_0.length c0_0, .slice A0_1 l0_1.length c0_1] 24 (0, 0)) (by (with_reducible repeat (first | refine blk_drewN ?_ _ | refine blk_drew ?_ | refine blk_alloc ?_ _)); exact BK186.out) hb); have n1_ := Aside0.mk (below_step (by repeat (first | (with_reducible first | exact HB.out | apply below_alloc | apply pw_below_drewN | apply below_drew1 | refine below_set ?_ GE186.out) | exact HB.out)) hb); clear BK186; clear HB; have BK186 := n0_; have HB := n1_; clear n0_ n1_; (try clear hb); (try clear hb2); (try clear hk); (try clear hi); have hcz10_0 : w9.cell? ⟨gb186, 0, none⟩ = some (.slice A0_0 l0_0.length c0_0) := (blk_cell BK186.out 0).trans rfl; have hcz10_1 : w9.cell? ⟨gb186, 1, none⟩ = some (.slice A0_1 l0_1.length c0_1) := (blk_cell BK186.out 1).trans rfl; have hfz10_0 := blk_frozen BK186.out 0; have hfz10_1 := blk_frozen BK186.out 1))
      go_loopg [27] k (fun kq v27 w' => ∃ (x27_1 : Int), v27 = .int .i64 x27_1 ∧ Aside0 (split_Ends.l0 kq l1 a2 l1 (l1.length : Int) x27_1 l0_0 l0_1 = some (r1, r2)) ∧ Aside0 (kq ≤ k) ∧ Aside0 (w'.heap[gb186]? = some (.cells #[(.slice A0_0 l0_0.length c0_0), (.slice A0_1 l0_1.length c0_1)] 24 (0, 0))) ∧ Aside0 (Below w.heap.size w w'))
      case atStart => exact ⟨(0), (by first | rfl | (simp; done) | (simp [*]; done)), H', ⟨Nat.le_refl _⟩, ⟨by (with_reducible repeat (first | refine blk_drewN ?_ _ | refine blk_drew ?_ | refine blk_alloc ?_ _)); exact BK186.out⟩, ⟨by repeat (first | (with_reducible first | exact HB.out | apply below_alloc | apply pw_below_drewN | apply below_drew1 | refine below_set ?_ GE186.out) | exact HB.out)⟩⟩
      case round =>
        clear H'
        try clear c1
        try clear c2
        try clear p2
        try clear c5
        try clear c5b0
        try clear c5b1
        try clear c6
        try clear c6b0
        try clear c6b1
        try clear c6b2
        try clear hcz10_0
        try clear hcz10_1
        try clear hcz8_0
        try clear hcz8_1
        try clear hfz10_0
        try clear hfz10_1
        try clear hfz8_0
        try clear hfz8_1
        obtain ⟨x27_1, rfl, HA, HK1, BK186, HB⟩ := hrel
        cases gk with
        | zero => exact absurd HA.out (by simp [split_Ends.l0])
        | succ k1 =>
          have H := HA.out
          clear HA
          simp only [split_Ends.l0] at H
          by_cases c11 : x27_1 < (l1.length : Int)
          · rw [if_pos c11] at H
            have c11b0 : decide (x27_1 < (l1.length : Int)) = true := decide_eq_true c11
            clear c11
            by_cases c12 : 0 ≤ x27_1
            · rw [if_pos c12] at H
              have c12b0 : decide (0 ≤ x27_1) = true := decide_eq_true c12
              clear c12
              by_cases c13 : x27_1 < (l1.length : Int)
              · rw [if_pos c13] at H
                have c13b0 : decide (x27_1 < (l1.length : Int)) = true := decide_eq_true c13
                clear c13
                by_cases c14 : (rd l1 x27_1) < (-1)
                · rw [if_pos c14] at H
                  have c14b0 : decide ((rd l1 x27_1) < (-1)) = true := decide_eq_true c14
                  clear c14
                  simp only [Option.some.injEq, Prod.mk.injEq] at H
                  obtain ⟨rfl, rfl⟩ := H
                  have p188 : 0 ≤ (x27_1 : Int) := of_decide_eq_true (by first | (with_reducible assumption) | assumption)
                  have q188 : x27_1 < (l1.length : Int) := of_decide_eq_true (by first | (with_reducible assumption) | assumption)
                  obtain ⟨ad188, e188, hx188_0⟩ := Kd.at_int HR1.out x27_1 p188 q188
                  cases e188
                  replace hx188_0 := (HB.out.cell (World.block_lt_of_cell? w _ hx188_0)).trans hx188_0
                  replace p188 := eq_true p188
                  replace q188 := eq_true q188
                  go_wp2
                  go_ret2
                  exact ⟨_, by first | rfl | (simp [errW_none, errW_some] <;> rfl) | (simp [*, errW_none, errW_some] <;> rfl), by first | exact Kd.R_nil _ _ _ _ _ | exact Kd.N_nil _ _ _ _ _ | exact Kd.V_nil _ _ _ _ _ | exact Kd.Q_nil _ _ _ _ _ | exact Kd.S_nil _ _ _ _ _, by repeat (first | (with_reducible first | exact HB.out | apply below_alloc | apply pw_below_drewN | apply below_drew1 | refine below_set ?_ GE186.out) | exact HB.out)⟩
                · rw [if_neg c14] at H
                  have c14b0 : decide ((rd l1 x27_1) < (-1)) = false := decide_eq_false c14
                  clear c14
                  by_cases c15 : (rd l1 x27_1) > 1
                  · rw [if_pos c15] at H
                    have c15b0 : decide (1 < (rd l1 x27_1)) = true := decide_eq_true c15
                    clear c15
                    simp only [Option.some.injEq, Prod.mk.injEq] at H
                    obtain ⟨rfl, rfl⟩ := H
                    have p188 : 0 ≤ (x27_1 : Int) := of_decide_eq_true (by first | (with_reducible assumption) | assumption)
                    have q188 : x27_1 < (l1.length : Int) := of_decide_eq_true (by first | (with_reducible assumption) | assumption)
                    obtain ⟨ad188, e188, hx188_0⟩ := Kd.at_int HR1.out x27_1 p188 q188
                    cases e188
                    replace hx188_0 := (HB.out.cell (World.block_lt_of_cell? w _ hx188_0)).trans hx188_0
                    replace p188 := eq_true p188
                    replace q188 := eq_true q188
                    go_wp2
                    go_ret2
                    exact ⟨_, by first | rfl | (simp [errW_none, errW_some] <;> rfl) | (simp [*, errW_none, errW_some] <;> rfl), by first | exact Kd.R_nil _ _ _ _ _ | exact Kd.N_nil _ _ _ _ _ | exact Kd.V_nil _ _ _ _ _ | exact Kd.Q_nil _ _ _ _ _ | exact Kd.S_nil _ _ _ _ _, by repeat (first | (with_reducible first | exact HB.out | apply below_alloc | apply pw_below_drewN | apply below_drew1 | refine below_set ?_ GE186.out) | exact HB.out)⟩
                  · rw [if_neg c15] at H
                    have c15b0 : decide (1 < (rd l1 x27_1)) = false := decide_eq_false c15
                    clear c15
                    have H' := Aside0.mk H
                    clear H
                    have p188 : 0 ≤ (x27_1 : Int) := of_decide_eq_true (by first | (with_reducible assumption) | assumption)
                    have q188 : x27_1 < (l1.length : Int) := of_decide_eq_true (by first | (with_reducible assumption) | assumption)
                    obtain ⟨ad188, e188, hx188_0⟩ := Kd.at_int HR1.out x27_1 p188 q188
                    cases e188
                    replace hx188_0 := (HB.out.cell (World.block_lt_of_cell? w _ hx188_0)).trans hx188_0
                    replace p188 := eq_true p188
                    replace q188 := eq_true q188
                    go_wp2
                    go_roundg k1
                    case measure => have := HK1.out; omega
                    case rel => exact ⟨(wrap64 (x27_1 + 1)), (by first | rfl | (simp; done) | (simp [*]; done)), H', ⟨by have := HK1.out; omega⟩, ⟨by (with_reducible repeat (first | refine blk_drewN ?_ _ | refine blk_drew ?_ | refine blk_alloc ?_ _)); exact BK186.out⟩, ⟨by repeat (first | (with_reducible first | exact HB.out | apply below_alloc | apply pw_below_drewN | apply below_drew1 | refine below_set ?_ GE186.out) | exact HB.out)⟩⟩
              · rw [if_neg c13] at H
                exact absurd H (by simp)
            · rw [if_neg c12] at H
              exact absurd H (by simp)
          · rw [if_neg c11] at H
            have c11b0 : decide (x27_1 < (l1.length : Int)) = false := decide_eq_false c11
            clear c11
            have HC16 := Aside0.mk H
            clear H
            go_upto_region 11 with (fail)
            go_cut [56] (fun v56 wc => ∃ (kq : Nat) (x56_15 : Bool), v56 = .bool x56_15 ∧ Aside0 (split_Ends.j1 kq l1 a2 x56_15 l0_0 l0_1 = some (r1, r2)) ∧ Aside0 (kq ≤ k1) ∧ Aside0 (wc.heap[gb186]? = some (.cells #[(.slice A0_0 l0_0.length c0_0), (.slice A0_1 l0_1.length c0_1)] 24 (0, 0))) ∧ Aside0 (Below w.heap.size w wc))
            case first =>
              have H := HC16.out
              clear HC16
              by_cases c17 : a2 < 0
              · rw [if_pos c17] at H
                have c17b0 : decide (a2 < 0) = true := decide_eq_true c17
                clear c17
                (first | rw [c17b0] | (simp only [i64_w, i32_w]; rw [c17b0]) | skip)
                have H' := Aside0.mk H
                clear H
                go_wp2
                go_meet
                case rel => exact ⟨_, (true), (by first | rfl | (simp; done) | (simp [*]; done)), H', ⟨by have := HK1.out; first | omega | exact Nat.le_refl _⟩, ⟨by (with_reducible repeat (first | refine blk_drewN ?_ _ | refine blk_drew ?_ | refine blk_alloc ?_ _)); exact BK186.out⟩, ⟨by repeat (first | (with_reducible first | exact HB.out | apply below_alloc | apply pw_below_drewN | apply below_drew1 | refine below_set ?_ GE186.out) | exact HB.out)⟩⟩
              · rw [if_neg c17] at H
                have c17b0 : decide (a2 < 0) = false := decide_eq_false c17
                clear c17
                (first | rw [c17b0] | (simp only [i64_w, i32_w]; rw [c17b0]) | skip)
                by_cases c18 : a2 > 8
                · rw [if_pos c18] at H
                  have c18b0 : decide (8 < a2) = true := decide_eq_true c18
                  clear c18
                  have H' := Aside0.mk H
                  clear H
                  go_wp2
                  go_meet
                  case rel => exact ⟨_, (true), (by first | rfl | (simp; done) | (simp [*]; done)), H', ⟨by have := HK1.out; first | omega | exact Nat.le_refl _⟩, ⟨by (with_reducible repeat (first | refine blk_drewN ?_ _ | refine blk_drew ?_ | refine blk_alloc ?_ _)); exact BK186.out⟩, ⟨by repeat (first | (with_reducible first | exact HB.out | apply below_alloc | apply pw_below_drewN | apply below_drew1 | refine below_set ?_ GE186.out) | exact HB.out)⟩⟩
                · rw [if_neg c18] at H
                  have c18b0 : decide (8 < a2) = false := decide_eq_false c18
                  clear c18
                  by_cases c19 : (l0_0.length : Int) > 0
                  · rw [if_pos c19] at H
                    have c19b0 : decide (0 < (l0_0.length : Int)) = true := decide_eq_true c19
                    have c19b1 : decide (0 < l0_0.length) = true := decide_eq_true (by omega)
                    clear c19
                    replace H := Option.bind_eq_some_iff.mp H
                    obtain ⟨t189, A200, H⟩ := H
                    replace H : (split_Ends.j1 k1 l1 a2 (decide (a2 < t189)) l0_0 l0_1) = some (r1, r2) := H
                    have A20 := Aside0.mk A200
                    clear A200
                    have H' := Aside0.mk H
                    clear H
                    have hcz21_0 : wr.cell? ⟨gb186, 0, none⟩ = some (.slice A0_0 l0_0.length c0_0) := (blk_cell BK186.out 0).trans rfl
                    have hcz21_1 : wr.cell? ⟨gb186, 1, none⟩ = some (.slice A0_1 l0_1.length c0_1) := (blk_cell BK186.out 1).trans rfl
                    have hfz21_0 := blk_frozen BK186.out 0
                    have hfz21_1 := blk_frozen BK186.out 1
                    go_wp2_with (first | (go_at_call 41; (with_reducible refine (slices_Max_int_int.calls k1 _ _ l0_0 t189 _ ?side1 ?side2 A20.out).mono ?_); (case side1 => repeat (first | exact (Kd.C_below HR0_0.out HB.out) | (with_reducible refine Kd.C_alloc ?_ _) | (with_reducible refine Kd.C_drewN ?_ _) | (with_reducible refine Kd.C_drew ?_))); (case side2 => exact HC0_0.out); rintro e w22 ⟨rfl, hb⟩; have n0_ := Aside0.mk (blk_below (g := gb186) (o := .cells #[.slice A0_0 l0_0.length c0_0, .slice A0_1 l0_1.length c0_1] 24 (0, 0)) (by (with_reducible repeat (first | refine blk_drewN ?_ _ | refine blk_drew ?_ | refine blk_alloc ?_ _)); exact BK186.out) hb); have n1_ := Aside0.mk (below_step (by repeat (first | (with_reducible first | exact HB.out | apply below_alloc | apply pw_below_drewN | apply below_drew1 | refine below_set ?_ GE186.out) | exact HB.out)) hb); clear BK186; clear HB; have BK186 := n0_; have HB := n1_; clear n0_ n1_; (try clear hb); (try clear hb2); (try clear hk); (try clear hi)))
                    go_meet
                    case rel => exact ⟨_, (decide (a2 < t189)), (by first | rfl | (simp; done) | (simp [*]; done)), H', ⟨by have := HK1.out; first | omega | exact Nat.le_refl _⟩, ⟨by (with_reducible repeat (first | refine blk_drewN ?_ _ | refine blk_drew ?_ | refine blk_alloc ?_ _)); exact BK186.out⟩, ⟨by repeat (first | (with_reducible first | exact HB.out | apply below_alloc | apply pw_below_drewN | apply below_drew1 | refine below_set ?_ GE186.out) | exact HB.out)⟩⟩
                  · rw [if_neg c19] at H
                    have c19b0 : decide (0 < (l0_0.length : Int)) = false := decide_eq_false c19
                    have c19b1 : decide (0 < l0_0.length) = false := decide_eq_false (by omega)
                    clear c19
                    have H' := Aside0.mk H
                    clear H
                    have hcz23_0 : wr.cell? ⟨gb186, 0, none⟩ = some (.slice A0_0 l0_0.length c0_0) := (blk_cell BK186.out 0).trans rfl
                    have hcz23_1 : wr.cell? ⟨gb186, 1, none⟩ = some (.slice A0_1 l0_1.length c0_1) := (blk_cell BK186.out 1).trans rfl
                    have hfz23_0 := blk_frozen BK186.out 0
                    have hfz23_1 := blk_frozen BK186.out 1
                    go_wp2
                    go_meet
                    case rel => exact ⟨_, (false), (by first | rfl | (simp; done) | (simp [*]; done)), H', ⟨by have := HK1.out; first | omega | exact Nat.le_refl _⟩, ⟨by (with_reducible repeat (first | refine blk_drewN ?_ _ | refine blk_drew ?_ | refine blk_alloc ?_ _)); exact BK186.out⟩, ⟨by repeat (first | (with_reducible first | exact HB.out | apply below_alloc | apply pw_below_drewN | apply below_drew1 | refine below_set ?_ GE186.out) | exact HB.out)⟩⟩
            case rest =>
              clear HC16
              try clear c1
              try clear p1
              try clear q1
              try clear hx1
              try clear c2
              try clear p2
              try clear c5
              try clear c5b0
              try clear c5b1
              try clear c6
              try clear c6b0
              try clear c6b1
              try clear c6b2
              try clear p6
              try clear c11
              try clear c11b0
              try clear c12
              try clear c12b0
              try clear c13
              try clear c13b0
              try clear c14
              try clear c14b0
              try clear c15
              try clear c15b0
              try clear c17
              try clear c17b0
              try clear c18
              try clear c18b0
              try clear p18
              try clear q18
              try clear hx18
              try clear c19
              try clear c19b0
              try clear c19b1
              try clear c21
              try clear hcz10_0
              try clear hcz10_1
              try clear hcz21_0
              try clear hcz21_1
              try clear hcz23_0
              try clear hcz23_1
              try clear hcz8_0
              try clear hcz8_1
              try clear hfz10_0
              try clear hfz10_1
              try clear hfz21_0
              try clear hfz21_1
              try clear hfz23_0
              try clear hfz23_1
              try clear hfz8_0
              try clear hfz8_1
              try clear hx188_0
              try clear p188
              try clear p2
              try clear q188
              obtain ⟨kq, x56_15, rfl, HA, HJ15, BK186, HB⟩ := hcut
              cases kq with
              | zero => exact absurd HA.out (by simp [split_Ends.j1])
              | succ kj15 =>
                have H := HA.out
                clear HA
                simp only [split_Ends.j1] at H
                by_cases c24 : x56_15 = true
                · subst c24
                  have H1 : (some (([] : List Int), 1)) = some (r1, r2) := by rw [if_pos rfl] at H; exact H
                  clear H
                  have H := H1
                  clear H1
                  simp only [Option.some.injEq, Prod.mk.injEq] at H
                  obtain ⟨rfl, rfl⟩ := H
                  go_wp2
                  go_ret2
                  exact ⟨_, by first | rfl | (simp [errW_none, errW_some] <;> rfl) | (simp [*, errW_none, errW_some] <;> rfl), by first | exact Kd.R_nil _ _ _ _ _ | exact Kd.N_nil _ _ _ _ _ | exact Kd.V_nil _ _ _ _ _ | exact Kd.Q_nil _ _ _ _ _ | exact Kd.S_nil _ _ _ _ _, by repeat (first | (with_reducible first | exact HB.out | apply below_alloc | apply pw_below_drewN | apply below_drew1 | refine below_set ?_ GE186.out) | exact HB.out)⟩
                · replace c24 := Bool.eq_false_iff.mpr c24
                  subst c24
                  have H1 : (if 0 ≤ (l1.length : Int) then (if ((l1.length : Int) : Int).toNat ≤ 35184372088832 then ((split_parts.f kj15 l0_0 l0_1).bind fun t193 => (split_Ends.l1 kj15 l1 a2 (List.replicate ((l1.length : Int) : Int).toNat 0) t193 (t193.length : Int) 0)) else (none)) else (none)) = some (r1, r2) := by rw [if_neg (show ¬ (false = true) by decide)] at H; exact H
                  clear H
                  have H := H1
                  clear H1
                  by_cases c25 : 0 ≤ (l1.length : Int)
                  · rw [if_pos c25] at H
                    have c25b0 := eq_true c25
                    have c25b1 : decide (0 ≤ (l1.length : Int)) = true := decide_eq_true c25
                    clear c25
                    by_cases c26 : ((l1.length : Int) : Int).toNat ≤ 35184372088832
                    · rw [if_pos c26] at H
                      have c26b0 := eq_true c26
                      have c26b1 : decide (((l1.length : Int) : Int).toNat ≤ 35184372088832) = true := decide_eq_true c26
                      clear c26
                      obtain ⟨y190, hy190⟩ : ∃ y_ : List Int, y_ = (List.replicate ((l1.length : Int) : Int).toNat 0) := ⟨_, rfl⟩
                      replace H : ((split_parts.f kj15 l0_0 l0_1).bind fun t193 => (split_Ends.l1 kj15 l1 a2 y190 t193 (t193.length : Int) 0)) = some (r1, r2) := by first | (rw [hy190]; with_reducible exact H) | (have H2_ := (Option.bind_some _ _).symm.trans H; rw [hy190]; with_reducible exact H2_) | (have H2_ := (Option.bind_some _ _).symm.trans H; with_reducible exact H2_) | with_reducible exact H | (rw [hy190]; exact H) | exact H
                      have Ny190 := Aside0.mk hy190
                      clear hy190
                      replace H := Option.bind_eq_some_iff.mp H
                      obtain ⟨t193, A270, H⟩ := H
                      replace H : (split_Ends.l1 kj15 l1 a2 y190 t193 (t193.length : Int) 0) = some (r1, r2) := H
                      have A27 := Aside0.mk A270
                      clear A270
                      have H' := Aside0.mk H
                      clear H
                      go_wp2_with (first | ((with_reducible refine gate_dst (N := 59) rfl ?_); (try (refine gate_guard (by rfl) ?_; dsimp only)); refine Kd.R_make (Kd.int .i64) _ 3 rfl (N := 59) rfl 22 _ _ rfl (l1.length : Int) rfl rfl Try.underlying22 (.int .i64 0) 8 info3 rfl (by decide) (by omega) 0 (ok := fun _ => True) (okp := fun _ => True) rfl (fun _ hk => hk) trivial (of_decide_eq_true (by first | (with_reducible assumption) | assumption)) (Nat.le_trans (Nat.mul_le_mul_right _ (of_decide_eq_true (by first | (with_reducible assumption) | assumption) : (l1.length : Int).toNat ≤ 35184372088832)) (by omega)) (Below.refl _ _) (Nat.le_refl _) ?_; intro v191 w28 ho29 hb hg_ hnew_; clear hg_ hnew_; (first | rw [← Ny190.out] at ho29 | (simp only [Int.reduceToNat] at ho29; rw [← Ny190.out] at ho29)); have n0_ := Aside0.mk (Kd.R_lower ho29 (below_size (by repeat (first | (with_reducible first | exact HB.out | apply below_alloc | apply pw_below_drewN | apply below_drew1 | refine below_set ?_ GE186.out) | exact HB.out)))); have n1_ := Aside0.mk (blk_below (g := gb186) (o := .cells #[.slice A0_0 l0_0.length c0_0, .slice A0_1 l0_1.length c0_1] 24 (0, 0)) (by (with_reducible repeat (first | refine blk_drewN ?_ _ | refine blk_drew ?_ | refine blk_alloc ?_ _)); exact BK186.out) hb); have n2_ := Aside0.mk (below_step (by repeat (first | (with_reducible first | exact HB.out | apply below_alloc | apply pw_below_drewN | apply below_drew1 | refine below_set ?_ GE186.out) | exact HB.out)) hb); clear BK186; clear HB; have HO192 := n0_; have BK186 := n1_; have HB := n2_; clear n0_ n1_ n2_; clear hb ho29; have hcz30_0 : w28.cell? ⟨gb186, 0, none⟩ = some (.slice A0_0 l0_0.length c0_0) := (blk_cell BK186.out 0).trans rfl; have hcz30_1 : w28.cell? ⟨gb186, 1, none⟩ = some (.slice A0_1 l0_1.length c0_1) := (blk_cell BK186.out 1).trans rfl; have hfz30_0 := blk_frozen BK186.out 0; have hfz30_1 := blk_frozen BK186.out 1) | ((with_reducible refine gate_callee (f := 39) rfl ?_); refine goesL_ (some 61) rfl rfl Try.func39 (by kernel_rfl) rfl #[.agg #[.slice A0_0 l0_0.length c0_0, .slice A0_1 l0_1.length c0_1]] rfl (by (try simp only [List.map_toArray, List.map_cons, List.map_nil]); first | done | rfl | (simp only [List.length_drop, List.length_take]; rfl)) ?_; (with_reducible refine (split_parts.calls kj15 _ _ l0_0 _ _ l0_1 t193 _ ?side1 ?side2 ?side3 ?side4 A27.out).mono ?_); (case side1 => repeat (first | exact (Kd.C_below HR0_0.out HB.out) | (with_reducible refine Kd.C_alloc ?_ _) | (with_reducible refine Kd.C_drewN ?_ _) | (with_reducible refine Kd.C_drew ?_))); (case side2 => exact HC0_0.out); (case side3 => repeat (first | exact (Kd.C_below HR0_1.out HB.out) | (with_reducible refine Kd.C_alloc ?_ _) | (with_reducible refine Kd.C_drewN ?_ _) | (with_reducible refine Kd.C_drew ?_))); (case side4 => exact HC0_1.out); rintro e w31 ⟨v194, rfl, ho0, hb⟩; refine ⟨_, rfl, ?_⟩; have n0_ := Aside0.mk (Kd.R_below (by (with_reducible repeat (first | apply Kd.R_alloc | apply Kd.R_drewN | apply Kd.R_drew)); exact HO192.out) hb); have n1_ := Aside0.mk (Kd.R_lower ho0 (below_size (by repeat (first | (with_reducible first | exact HB.out | apply below_alloc | apply pw_below_drewN | apply below_drew1 | refine below_set ?_ GE186.out) | exact HB.out)))); have n2_ := Aside0.mk (blk_below (g := gb186) (o := .cells #[.slice A0_0 l0_0.length c0_0, .slice A0_1 l0_1.length c0_1] 24 (0, 0)) (by (with_reducible repeat (first | refine blk_drewN ?_ _ | refine blk_drew ?_ | refine blk_alloc ?_ _)); exact BK186.out) hb); have n3_ := Aside0.mk (below_step (by repeat (first | (with_reducible first | exact HB.out | apply below_alloc | apply pw_below_drewN | apply below_drew1 | refine below_set ?_ GE186.out) | exact HB.out)) hb); clear HO192; clear BK186; clear HB; have HO192 := n0_; have HO195 := n1_; have BK186 := n2_; have HB := n3_; clear n0_ n1_ n2_ n3_; (try clear hb); (try clear hb2); (try clear hk); (try clear hi); (try clear ho0); obtain ⟨Ao32, co32, eo32⟩ := Kd.R_slice HO195.out; subst eo32))
                      go_loopg [63] kj15 (fun kq v63 w' => ∃ (x10_3 : List Int) (x63_3 : Int), v63 = .int .i64 x63_3 ∧ Aside0 (split_Ends.l1 kq l1 a2 x10_3 t193 (t193.length : Int) x63_3 = some (r1, r2)) ∧ Aside0 (kq ≤ kj15) ∧ Aside0 (Kd.R (Kd.int .i64) 3 w' w.heap.size (fun _ => True) v191 x10_3) ∧ Aside0 (Kd.R k90 90 w' w.heap.size (fun _ => True) (.slice Ao32 t193.length co32) t193) ∧ Aside0 (w'.heap[gb186]? = some (.cells #[(.slice A0_0 l0_0.length c0_0), (.slice A0_1 l0_1.length c0_1)] 24 (0, 0))) ∧ Aside0 (Below w.heap.size w w'))
                      case atStart => exact ⟨(y190), (0), (by first | rfl | (simp; done) | (simp [*]; done)), H', ⟨Nat.le_refl _⟩, ⟨by (with_reducible repeat (first | apply Kd.R_alloc | apply Kd.R_drewN | apply Kd.R_drew)); exact HO192.out⟩, ⟨by (with_reducible repeat (first | apply Kd.R_alloc | apply Kd.R_drewN | apply Kd.R_drew)); exact HO195.out⟩, ⟨by (with_reducible repeat (first | refine blk_drewN ?_ _ | refine blk_drew ?_ | refine blk_alloc ?_ _)); exact BK186.out⟩, ⟨by repeat (first | (with_reducible first | exact HB.out | apply below_alloc | apply pw_below_drewN | apply below_drew1 | refine below_set ?_ GE186.out) | exact HB.out)⟩⟩
                      case round =>
                        clear H'
                        try clear c1
                        try clear p1
                        try clear q1
                        try clear hx1
                        try clear c2
                        try clear p2
                        try clear c3
                        try clear c5
                        try clear c5b0
                        try clear c5b1
                        try clear c6
                        try clear c6b0
                        try clear c6b1
                        try clear c6b2
                        try clear p6
                        try clear c11
                        try clear c11b0
                        try clear c12
                        try clear c12b0
                        try clear c13
                        try clear c13b0
                        try clear c14
                        try clear c14b0
                        try clear c15
                        try clear c15b0
                        try clear c17
                        try clear c17b0
                        try clear c18
                        try clear c18b0
                        try clear p18
                        try clear q18
                        try clear hx18
                        try clear c19
                        try clear c19b0
                        try clear c19b1
                        try clear c21
                        try clear c24
                        try clear c25
                        try clear c25b0
                        try clear c25b1
                        try clear c26
                        try clear c26b0
                        try clear c26b1
                        try clear hcz10_0
                        try clear hcz10_1
                        try clear hcz21_0
                        try clear hcz21_1
                        try clear hcz23_0
                        try clear hcz23_1
                        try clear hcz30_0
                        try clear hcz30_1
                        try clear hcz8_0
                        try clear hcz8_1
                        try clear hfz10_0
                        try clear hfz10_1
                        try clear hfz21_0
                        try clear hfz21_1
                        try clear hfz23_0
                        try clear hfz23_1
                        try clear hfz30_0
                        try clear hfz30_1
                        try clear hfz8_0
                        try clear hfz8_1
                        try clear hx188_0
                        try clear p1
                        try clear p18
                        try clear p188
                        try clear p2
                        try clear p6
                        try clear q1
                        try clear q18
                        try clear q188
                        obtain ⟨x10_3, x63_3, rfl, HA, HK3, HO_10, HO_61, BK186, HB⟩ := hrel
                        cases gk with
                        | zero => exact absurd HA.out (by simp [split_Ends.l1])
                        | succ k3 =>
                          have H := HA.out
                          clear HA
                          simp only [split_Ends.l1] at H
                          by_cases c33 : x63_3 < (t193.length : Int)
                          · rw [if_pos c33] at H
                            have c33b0 : decide (x63_3 < (t193.length : Int)) = true := decide_eq_true c33
                            clear c33
                            by_cases c34 : 0 ≤ x63_3
                            · rw [if_pos c34] at H
                              have c34b0 : decide (0 ≤ x63_3) = true := decide_eq_true c34
                              clear c34
                              by_cases c35 : x63_3 < (t193.length : Int)
                              · rw [if_pos c35] at H
                                have c35b0 : decide (x63_3 < (t193.length : Int)) = true := decide_eq_true c35
                                clear c35
                                by_cases c36 : 0 ≤ a2
                                · rw [if_pos c36] at H
                                  have c36b0 := eq_true c36
                                  have c36b1 : decide (0 ≤ a2) = true := decide_eq_true c36
                                  clear c36
                                  obtain ⟨ji37, hji37⟩ : ∃ j_ : Int, (shl .i64 (-1) a2) = j_ := ⟨_, rfl⟩
                                  replace H : (if x63_3 < (l1.length : Int) then (if 0 ≤ (wrap64 (a2 - ((rd_T90 t193 x63_3).f0))) then (if x63_3 < (x10_3.length : Int) then (split_Ends.l1 k3 l1 a2 (x10_3.set (x63_3 : Int).toNat (wrap64 ((ji37) + (shl .i64 (wrap64 ((wrap64 ((wrap64 (2 * ((rd_T90 t193 x63_3).f1))) + 1)) + (rd l1 x63_3))) (wrap64 (a2 - ((rd_T90 t193 x63_3).f0))))))) t193 (t193.length : Int) (wrap64 (x63_3 + 1))) else (none)) else (none)) else (none)) = some (r1, r2) := by first | (rw [hji37] at H; exact H) | (simp only [hji37] at H ⊢; exact H)
                                  have hji37_ : (IntKind.i64.wrap ((-1) * 2 ^ min a2.toNat 64)) = ji37 := hji37
                                  have hji37z : a2 ≤ 64 → (IntKind.i64.wrap ((-1) * 2 ^ a2.toNat)) = ji37 := shl_small hji37
                                  have hji37y : (wrap64 ((-1) * 2 ^ min a2.toNat 64)) = ji37 := (i64_w _).symm.trans hji37_
                                  have hji37n : wrap64 (-2 ^ min a2.toNat 64) = ji37 := by have h_ := hji37y; rw [Int.neg_mul, Int.one_mul] at h_; exact h_
                                  have hji37x : a2 ≤ 64 → (wrap64 ((-1) * 2 ^ a2.toNat)) = ji37 := fun h_ => (i64_w _).symm.trans (hji37z h_)
                                  by_cases c38 : x63_3 < (l1.length : Int)
                                  · rw [if_pos c38] at H
                                    have c38b0 : decide (x63_3 < (l1.length : Int)) = true := decide_eq_true c38
                                    clear c38
                                    obtain ⟨ji39, hji39⟩ : ∃ j_ : Int, (wrap64 (a2 - ((rd_T90 t193 x63_3).f0))) = j_ := ⟨_, rfl⟩
                                    replace H : (if 0 ≤ (ji39) then (if x63_3 < (x10_3.length : Int) then (split_Ends.l1 k3 l1 a2 (x10_3.set (x63_3 : Int).toNat (wrap64 ((ji37) + (shl .i64 (wrap64 ((wrap64 ((wrap64 (2 * ((rd_T90 t193 x63_3).f1))) + 1)) + (rd l1 x63_3))) (ji39))))) t193 (t193.length : Int) (wrap64 (x63_3 + 1))) else (none)) else (none)) = some (r1, r2) := by first | (rw [hji39] at H; exact H) | (simp only [hji39] at H ⊢; exact H)
                                    have hji39w : (IntKind.i64.wrap (a2 - ((rd_T90 t193 x63_3).f0))) = ji39 := (i64_w _).trans hji39
                                    by_cases c40 : 0 ≤ (ji39)
                                    · rw [if_pos c40] at H
                                      have c40b0 := eq_true c40
                                      have c40b1 : decide (0 ≤ (ji39)) = true := decide_eq_true c40
                                      clear c40
                                      obtain ⟨ji41, hji41⟩ : ∃ j_ : Int, (shl .i64 (wrap64 ((wrap64 ((wrap64 (2 * ((rd_T90 t193 x63_3).f1))) + 1)) + (rd l1 x63_3))) (ji39)) = j_ := ⟨_, rfl⟩
                                      replace H : (if x63_3 < (x10_3.length : Int) then (split_Ends.l1 k3 l1 a2 (x10_3.set (x63_3 : Int).toNat (wrap64 ((ji37) + (ji41)))) t193 (t193.length : Int) (wrap64 (x63_3 + 1))) else (none)) = some (r1, r2) := by first | (rw [hji41] at H; exact H) | (simp only [hji41] at H ⊢; exact H)
                                      have hji41_ : (IntKind.i64.wrap ((wrap64 ((wrap64 ((wrap64 (2 * ((rd_T90 t193 x63_3).f1))) + 1)) + (rd l1 x63_3))) * 2 ^ min (ji39).toNat 64)) = ji41 := hji41
                                      have hji41z : (ji39) ≤ 64 → (IntKind.i64.wrap ((wrap64 ((wrap64 ((wrap64 (2 * ((rd_T90 t193 x63_3).f1))) + 1)) + (rd l1 x63_3))) * 2 ^ (ji39).toNat)) = ji41 := shl_small hji41
                                      have hji41y : (wrap64 ((wrap64 ((wrap64 ((wrap64 (2 * ((rd_T90 t193 x63_3).f1))) + 1)) + (rd l1 x63_3))) * 2 ^ min (ji39).toNat 64)) = ji41 := (i64_w _).symm.trans hji41_
                                      have hji41x : (ji39) ≤ 64 → (wrap64 ((wrap64 ((wrap64 ((wrap64 (2 * ((rd_T90 t193 x63_3).f1))) + 1)) + (rd l1 x63_3))) * 2 ^ (ji39).toNat)) = ji41 := fun h_ => (i64_w _).symm.trans (hji41z h_)
                                      by_cases c42 : x63_3 < (x10_3.length : Int)
                                      · rw [if_pos c42] at H
                                        have c42b0 : decide (x63_3 < (x10_3.length : Int)) = true := decide_eq_true c42
                                        clear c42
                                        obtain ⟨y199, hy199⟩ : ∃ y_ : List Int, y_ = (x10_3.set (x63_3 : Int).toNat (wrap64 ((ji37) + (ji41)))) := ⟨_, rfl⟩
                                        replace H : (split_Ends.l1 k3 l1 a2 y199 t193 (t193.length : Int) (wrap64 (x63_3 + 1))) = some (r1, r2) := by first | (rw [hy199]; with_reducible exact H) | (have H2_ := (Option.bind_some _ _).symm.trans H; rw [hy199]; with_reducible exact H2_) | (have H2_ := (Option.bind_some _ _).symm.trans H; with_reducible exact H2_) | with_reducible exact H | (rw [hy199]; exact H) | exact H
                                        have Ny199 := Aside0.mk hy199
                                        clear hy199
                                        have H' := Aside0.mk H
                                        clear H
                                        have p196 : 0 ≤ (x63_3 : Int) := of_decide_eq_true (by first | (with_reducible assumption) | assumption)
                                        have q196 : x63_3 < (t193.length : Int) := of_decide_eq_true (by first | (with_reducible assumption) | assumption)
                                        obtain ⟨ad196, e196, hx196_0, hx196_1⟩ := at_T90 (Kd.R_reads' HO_61.out).2.2 x63_3 p196 q196
                                        cases e196
                                        replace p196 := eq_true p196
                                        replace q196 := eq_true q196
                                        try go_wp2_with (first | ((with_reducible refine gate_dst (N := 12) rfl ?_); (try (refine gate_guard (by rfl) ?_; dsimp only)); refine box_event ?hg (N := 12) ?hd (cs := #[.int .i64 0, .int .i64 0]) (t := 90) ?hr ?_; (case hd => rfl); (case hg => rfl); (case hr => first | (go_simp; done) | (go_simp; rfl)); intro gb197 hg w44 hbox hb; have n0_ := Aside0.mk (Kd.R_below (by (with_reducible repeat (first | apply Kd.R_alloc | apply Kd.R_drewN | apply Kd.R_drew)); exact HO_10.out) hb); have n1_ := Aside0.mk (Kd.R_below (Kd.R_elderB (by (with_reducible repeat (first | apply Kd.R_alloc | apply Kd.R_drewN | apply Kd.R_drew)); exact HO_61.out) gb197 (Nat.le_of_eq hg.symm)) hb); have n2_ := Aside0.mk (blk_below (g := gb186) (o := .cells #[.slice A0_0 l0_0.length c0_0, .slice A0_1 l0_1.length c0_1] 24 (0, 0)) (by (with_reducible repeat (first | refine blk_drewN ?_ _ | refine blk_drew ?_ | refine blk_alloc ?_ _)); exact BK186.out) hb); have n3_ := Aside0.mk (below_step (by repeat (first | (with_reducible first | exact HB.out | apply below_alloc | apply pw_below_drewN | apply below_drew1 | refine below_set ?_ GE186.out) | exact HB.out)) hb); have n4_ := Aside0.mk (hbox); have n5_ := Aside0.mk ((by rw [hg]; exact (below_size (by repeat (first | (with_reducible first | exact HB.out | apply below_alloc | apply pw_below_drewN | apply below_drew1 | refine below_set ?_ GE186.out) | exact HB.out))) : w.heap.size ≤ gb197)); have n6_ := Aside0.mk ((by rw [hg]; exact (below_size (by repeat (first | (with_reducible first | exact HB.out | apply below_alloc | apply pw_below_drewN | apply below_drew1 | refine below_set ?_ GE186.out) | exact HB.out))) : w.heap.size ≤ gb197)); have n7_ := Aside0.mk ((by rw [hg]; exact Nat.ne_of_lt (blk_lt (g := gb186) (o := .cells #[.slice A0_0 l0_0.length c0_0, .slice A0_1 l0_1.length c0_1] 24 (0, 0)) (by (with_reducible repeat (first | refine blk_drewN ?_ _ | refine blk_drew ?_ | refine blk_alloc ?_ _)); exact BK186.out)) : gb186 ≠ gb197)); have n8_ := Aside0.mk ((by rw [hg]; exact Nat.ne_of_gt (blk_lt (g := gb186) (o := .cells #[.slice A0_0 l0_0.length c0_0, .slice A0_1 l0_1.length c0_1] 24 (0, 0)) (by (with_reducible repeat (first | refine blk_drewN ?_ _ | refine blk_drew ?_ | refine blk_alloc ?_ _)); exact BK186.out)) : gb197 ≠ gb186)); clear HO_10; clear HO_61; clear BK186; clear HB; have HO_10 := n0_; have HO_61 := n1_; have BK186 := n2_; have HB := n3_; have BK197 := n4_; have GW197 := n5_; have GE197 := n6_; have NB186_197 := n7_; have NB197_186 := n8_; clear n0_ n1_ n2_ n3_ n4_ n5_ n6_ n7_ n8_; clear hb hbox hg; have hnb45 := NB197_186.out; have hnc45 := NB186_197.out; have hcz46_0 : w44.cell? ⟨gb197, 0, none⟩ = some (.int .i64 0) := (blk_cell BK197.out 0).trans rfl; have hcz46_1 : w44.cell? ⟨gb197, 1, none⟩ = some (.int .i64 0) := (blk_cell BK197.out 1).trans rfl; have hfz46_0 := blk_frozen BK197.out 0; have hfz46_1 := blk_frozen BK197.out 1))
                                        have n0_ : Aside0 (Kd.R (Kd.int .i64) 3 ((w44.setCell ⟨gb197, 0, none⟩ (.int .i64 ((rd_T90 t193 x63_3).f0))).setCell ⟨gb197, 1, none⟩ (.int .i64 ((rd_T90 t193 x63_3).f1))) w.heap.size (fun _ => True) v191 x10_3) := ⟨by (with_reducible repeat (first | apply Kd.R_alloc | apply Kd.R_drewN | apply Kd.R_drew)); exact Kd.R_mono (Kd.R_far (p := ⟨gb197, 1, none⟩) (Kd.R_far (p := ⟨gb197, 0, none⟩) (Kd.R_types HO_10.out BK197.out (by decide)) (fun _ hk => hk.2) (.int .i64 ((rd_T90 t193 x63_3).f0))) (fun _ hk => hk.2) (.int .i64 ((rd_T90 t193 x63_3).f1))) (fun _ hk => trivial)⟩
                                        have n1_ : Aside0 (Kd.R k90 90 ((w44.setCell ⟨gb197, 0, none⟩ (.int .i64 ((rd_T90 t193 x63_3).f0))).setCell ⟨gb197, 1, none⟩ (.int .i64 ((rd_T90 t193 x63_3).f1))) w.heap.size (fun k_ => k_ ≠ gb197) (.slice (some ad196) t193.length co32) t193) := ⟨by (with_reducible repeat (first | apply Kd.R_alloc | apply Kd.R_drewN | apply Kd.R_drew)); exact Kd.R_mono (Kd.R_far (p := ⟨gb197, 1, none⟩) (Kd.R_far (p := ⟨gb197, 0, none⟩) (Kd.R_mono HO_61.out (fun k_ hk => (⟨hk, hk.2⟩ : _ ∧ k_ ≠ gb197))) (fun _ hk => hk.2) (.int .i64 ((rd_T90 t193 x63_3).f0))) (fun _ hk => hk.2) (.int .i64 ((rd_T90 t193 x63_3).f1))) (fun _ hk => hk.1.2)⟩
                                        have n2_ : Aside0 (((w44.setCell ⟨gb197, 0, none⟩ (.int .i64 ((rd_T90 t193 x63_3).f0))).setCell ⟨gb197, 1, none⟩ (.int .i64 ((rd_T90 t193 x63_3).f1))).heap[gb186]? = some (.cells #[.slice A0_0 l0_0.length c0_0, .slice A0_1 l0_1.length c0_1] 24 (0, 0))) := ⟨by (with_reducible repeat (first | refine blk_drewN ?_ _ | refine blk_drew ?_ | refine blk_alloc ?_ _)); refine blk_far ?_ NB186_197.out _; (with_reducible repeat (first | refine blk_drewN ?_ _ | refine blk_drew ?_ | refine blk_alloc ?_ _)); refine blk_far ?_ NB186_197.out _; (with_reducible repeat (first | refine blk_drewN ?_ _ | refine blk_drew ?_ | refine blk_alloc ?_ _)); exact BK186.out⟩
                                        have n3_ : Aside0 (((w44.setCell ⟨gb197, 0, none⟩ (.int .i64 ((rd_T90 t193 x63_3).f0))).setCell ⟨gb197, 1, none⟩ (.int .i64 ((rd_T90 t193 x63_3).f1))).heap[gb197]? = some (.cells #[.int .i64 ((rd_T90 t193 x63_3).f0), .int .i64 ((rd_T90 t193 x63_3).f1)] 90 (0, 0))) := ⟨by (with_reducible repeat (first | refine blk_drewN ?_ _ | refine blk_drew ?_ | refine blk_alloc ?_ _)); refine blk_put (cs := #[.int .i64 ((rd_T90 t193 x63_3).f0), .int .i64 0]) ?_ 1 _ rfl; (with_reducible repeat (first | refine blk_drewN ?_ _ | refine blk_drew ?_ | refine blk_alloc ?_ _)); refine blk_put (cs := #[.int .i64 0, .int .i64 0]) ?_ 0 _ rfl; (with_reducible repeat (first | refine blk_drewN ?_ _ | refine blk_drew ?_ | refine blk_alloc ?_ _)); exact BK197.out⟩
                                        have n4_ : Aside0 (Below w.heap.size w ((w44.setCell ⟨gb197, 0, none⟩ (.int .i64 ((rd_T90 t193 x63_3).f0))).setCell ⟨gb197, 1, none⟩ (.int .i64 ((rd_T90 t193 x63_3).f1)))) := ⟨by repeat (first | (with_reducible first | exact HB.out | apply below_alloc | apply pw_below_drewN | apply below_drew1 | refine below_set ?_ GE186.out | refine below_set ?_ GE197.out) | exact HB.out)⟩
                                        (try clear HO_10)
                                        (try clear HO_61)
                                        (try clear BK186)
                                        (try clear BK197)
                                        (try clear HB)
                                        generalize ((w44.setCell ⟨gb197, 0, none⟩ (.int .i64 ((rd_T90 t193 x63_3).f0))).setCell ⟨gb197, 1, none⟩ (.int .i64 ((rd_T90 t193 x63_3).f1))) = w47 at n0_ n1_ n2_ n3_ n4_ ⊢
                                        have HO_10 := n0_
                                        have HO_61 := n1_
                                        have BK186 := n2_
                                        have BK197 := n3_
                                        have HB := n4_
                                        clear n0_ n1_ n2_ n3_ n4_
                                        have n0_ := Aside0.mk (Kd.R_drew HO_10.out)
                                        have n1_ := Aside0.mk (Kd.R_drew HO_61.out)
                                        have n2_ := Aside0.mk (blk_drew BK186.out)
                                        have n3_ := Aside0.mk (blk_drew BK197.out)
                                        have n4_ := Aside0.mk (below_drew1 HB.out)
                                        clear HO_10
                                        clear HO_61
                                        clear BK186
                                        clear BK197
                                        clear HB
                                        have HO_10 := n0_
                                        have HO_61 := n1_
                                        have BK186 := n2_
                                        have BK197 := n3_
                                        have HB := n4_
                                        clear n0_ n1_ n2_ n3_ n4_
                                        have p198 : 0 ≤ (x63_3 : Int) := of_decide_eq_true (by first | (with_reducible assumption) | assumption)
                                        have q198 : x63_3 < (l1.length : Int) := of_decide_eq_true (by first | (with_reducible assumption) | assumption)
                                        obtain ⟨ad198, e198, hx198_0⟩ := Kd.at_int HR1.out x63_3 p198 q198
                                        have hw198_0 := hx198_0
                                        cases e198
                                        replace hx198_0 := (HB.out.cell (World.block_lt_of_cell? w _ hx198_0)).trans hx198_0
                                        replace p198 := eq_true p198
                                        replace q198 := eq_true q198
                                        have p43 : 0 ≤ (x63_3 : Int) := of_decide_eq_true (by first | (with_reducible assumption) | assumption)
                                        have q43 : (x63_3 : Int) < ((x10_3.length : Int) : Int) := of_decide_eq_true (by first | (with_reducible assumption) | assumption)
                                        obtain ⟨go43, co43, eo43, gb43, gl43, cl43, HG43⟩ := Kd.R_form HO_10.out (by omega)
                                        (first | cases eo43 | (injection eo43 with ea_ en_ ec_; (first | subst ea_ | (injection ea_ with ea_; subst ea_)); subst ec_; clear en_))
                                        have GB43 := Aside0.mk gb43
                                        have GG43 := Aside0.mk HG43
                                        clear gb43 gl43 HG43
                                        obtain ⟨hx43_0, hf43_0⟩ := Kd.R_celln 0 HO_10.out (x63_3 : Int) p43 q43
                                        replace p43 := eq_true p43
                                        replace q43 := eq_true q43
                                        have HP49 := Kd.R_putn HO_10.out (x63_3 : Int) (wrap64 ((ji37) + (ji41)))
                                        rw [← Ny199.out] at HP49
                                        have HQ49 := Aside0.mk HP49
                                        clear HP49
                                        refine start_ (n := 21) (S := fun w' => w'.cell? ⟨gb197, 0, none⟩ = some (.int .i64 ((rd_T90 t193 x63_3).f0)) ∧ w'.cell? ⟨gb197, 1, none⟩ = some (.int .i64 ((rd_T90 t193 x63_3).f1)) ∧ w'.cell? (ad198.add (x63_3).toNat) = some (.int .i64 (rd l1 x63_3))) (ds := [20]) #[false, false, false, false, false, false, false, false, false, false, false, false, false, false, false, false, false, false, false, false, false] (by kernel_rfl) rfl rfl ⟨(blk_cell BK197.out 0).trans rfl, (blk_cell BK197.out 1).trans rfl, ((HB.out.cell (World.block_lt_of_cell? w _ hw198_0)).trans hw198_0)⟩ (fun hHeld => ?_); refine with_tabW split_Ends.tab17 split_Ends.bits17 (fun HT_ HW_ => ?_)
                                        generalize w47.drew = w48 at HO_10 HO_61 BK186 BK197 HB GG43 HQ49 hf43_0 hx198_0 hx43_0 hHeld ⊢
                                        refine pure_ (i := 0) (N := some 68) (v := ?_) (a' := ?_) #[true, false, false, false, false, false, false, false, false, false, false, false, false, false, false, false, false, false, false, false, false] rfl rfl (any_of HT_.out (by kernel_rfl)) (fun _ _ _ h => h) (Or.inl ⟨by rfl, ?_⟩) ?_ ?_
                                        rotate_left
                                        · intro w'
                                          go_simp
                                          with_reducible rfl
                                        rotate_left
                                        · simp only [Act.put, List.setIfInBounds_toArray, List.set_cons_zero, List.set_cons_succ, i64_w, i32_w]
                                          rfl
                                        refine pure_ (i := 1) (N := some 69) (v := ?_) (a' := ?_) #[true, true, false, false, false, false, false, false, false, false, false, false, false, false, false, false, false, false, false, false, false] rfl rfl (any_of HT_.out (by kernel_rfl)) (fun _ _ _ h => h) (Or.inl ⟨by rfl, ?_⟩) ?_ ?_
                                        rotate_left
                                        · intro w'
                                          go_simp
                                          with_reducible rfl
                                        rotate_left
                                        · simp only [Act.put, List.setIfInBounds_toArray, List.set_cons_zero, List.set_cons_succ, i64_w, i32_w]
                                          rfl
                                        refine pure_ (i := 2) (N := some 70) (v := ?_) (a' := ?_) #[true, true, true, false, false, false, false, false, false, false, false, false, false, false, false, false, false, false, false, false, false] rfl rfl (any_of HT_.out (by kernel_rfl)) (fun _ _ _ h => h) (Or.inl ⟨by rfl, ?_⟩) ?_ ?_
                                        rotate_left
                                        · intro w'
                                          go_simp
                                          with_reducible rfl
                                        rotate_left
                                        · simp only [Act.put, List.setIfInBounds_toArray, List.set_cons_zero, List.set_cons_succ, i64_w, i32_w]
                                          rfl
                                        refine pure_ (i := 3) (N := some 71) (v := ?_) (a' := ?_) #[true, true, true, true, false, false, false, false, false, false, false, false, false, false, false, false, false, false, false, false, false] rfl rfl (any_of HT_.out (by kernel_rfl)) (fun _ _ _ h => h) (Or.inl ⟨by rfl, ?_⟩) ?_ ?_
                                        rotate_left
                                        · intro w'
                                          go_simp
                                          with_reducible rfl
                                        rotate_left
                                        · simp only [Act.put, List.setIfInBounds_toArray, List.set_cons_zero, List.set_cons_succ, i64_w, i32_w]
                                          rfl
                                        refine pure_ (i := 4) (N := some 72) (v := ?_) (a' := ?_) #[true, true, true, true, true, false, false, false, false, false, false, false, false, false, false, false, false, false, false, false, false] rfl rfl (any_of HT_.out (by kernel_rfl)) (fun _ _ _ h => h) (Or.inl ⟨by rfl, ?_⟩) ?_ ?_
                                        rotate_left
                                        · intro w'
                                          go_simp
                                          with_reducible rfl
                                        rotate_left
                                        · simp only [Act.put, List.setIfInBounds_toArray, List.set_cons_zero, List.set_cons_succ, i64_w, i32_w]
                                          rfl
                                        refine pure_ (i := 8) (N := some 76) (v := ?_) (a' := ?_) #[true, true, true, true, true, false, false, false, true, false, false, false, false, false, false, false, false, false, false, false, false] rfl rfl (any_of HT_.out (by kernel_rfl)) (fun _ _ _ h => h) (Or.inl ⟨by rfl, ?_⟩) ?_ ?_
                                        rotate_left
                                        · intro w'
                                          go_simp
                                          with_reducible rfl
                                        rotate_left
                                        · simp only [Act.put, List.setIfInBounds_toArray, List.set_cons_zero, List.set_cons_succ, i64_w, i32_w]
                                          rfl
                                        refine pure_ (i := 9) (N := some 77) (v := ?_) (a' := ?_) #[true, true, true, true, true, false, false, false, true, true, false, false, false, false, false, false, false, false, false, false, false] rfl rfl (any_of HT_.out (by kernel_rfl)) (fun _ _ _ h => h) (Or.inl ⟨by rfl, ?_⟩) ?_ ?_
                                        rotate_left
                                        · intro w'
                                          go_simp
                                          with_reducible rfl
                                        rotate_left
                                        · simp only [Act.put, List.setIfInBounds_toArray, List.set_cons_zero, List.set_cons_succ, i64_w, i32_w]
                                          rfl
                                        refine pure_ (i := 10) (N := some 78) (v := ?_) (a' := ?_) #[true, true, true, true, true, false, false, false, true, true, true, false, false, false, false, false, false, false, false, false, false] rfl rfl (any_of HT_.out (by kernel_rfl)) (fun _ _ _ h => h) (Or.inl ⟨by rfl, ?_⟩) ?_ ?_
                                        rotate_left
                                        · intro w'
                                          go_simp
                                          with_reducible rfl
                                        rotate_left
                                        · simp only [Act.put, List.setIfInBounds_toArray, List.set_cons_zero, List.set_cons_succ, i64_w, i32_w]
                                          rfl
                                        refine pure_ (i := 13) (N := some 81) (v := ?_) (a' := ?_) #[true, true, true, true, true, false, false, false, true, true, true, false, false, true, false, false, false, false, false, false, false] rfl rfl (any_of HT_.out (by kernel_rfl)) (fun _ _ _ h => h) (Or.inl ⟨by rfl, ?_⟩) ?_ ?_
                                        rotate_left
                                        · intro w'
                                          go_simp
                                          with_reducible rfl
                                        rotate_left
                                        · simp only [Act.put, List.setIfInBounds_toArray, List.set_cons_zero, List.set_cons_succ, i64_w, i32_w]
                                          rfl
                                        refine pure_ (i := 14) (N := some 82) (v := ?_) (a' := ?_) #[true, true, true, true, true, false, false, false, true, true, true, false, false, true, true, false, false, false, false, false, false] rfl rfl (any_of HT_.out (by kernel_rfl)) (fun _ _ _ h => h) (Or.inl ⟨by rfl, ?_⟩) ?_ ?_
                                        rotate_left
                                        · intro w'
                                          go_simp
                                          with_reducible rfl
                                        rotate_left
                                        · simp only [Act.put, List.setIfInBounds_toArray, List.set_cons_zero, List.set_cons_succ, i64_w, i32_w]
                                          rfl
                                        refine take_ (i := 5) (N := some 73) (v := ?_) (a' := ?_) #[true, true, true, true, true, true, false, false, true, true, true, false, false, true, true, false, false, false, false, false, false] rfl rfl (take_ofW HT_.out HW_.out (by kernel_rfl)) (fun _ _ _ h => h) (Or.inl ⟨by rfl, ?_⟩) hHeld ?_ ?_
                                        rotate_left
                                        · rintro w' ⟨s0, s1, s2⟩
                                          go_simp
                                          with_reducible rfl
                                        rotate_left
                                        · simp only [Act.put, List.setIfInBounds_toArray, List.set_cons_zero, List.set_cons_succ, i64_w, i32_w]
                                          rfl
                                        refine pure_ (i := 6) (N := some 74) (v := ?_) (a' := ?_) #[true, true, true, true, true, true, true, false, true, true, true, false, false, true, true, false, false, false, false, false, false] rfl rfl (any_of HT_.out (by kernel_rfl)) (fun _ _ _ h => h) (Or.inl ⟨by rfl, ?_⟩) ?_ ?_
                                        rotate_left
                                        · intro w'
                                          go_simp
                                          with_reducible rfl
                                        rotate_left
                                        · simp only [Act.put, List.setIfInBounds_toArray, List.set_cons_zero, List.set_cons_succ, i64_w, i32_w]
                                          rfl
                                        refine pure_ (i := 7) (N := some 75) (v := ?_) (a' := ?_) #[true, true, true, true, true, true, true, true, true, true, true, false, false, true, true, false, false, false, false, false, false] rfl rfl (any_of HT_.out (by kernel_rfl)) (fun _ _ _ h => h) (Or.inl ⟨by rfl, ?_⟩) ?_ ?_
                                        rotate_left
                                        · intro w'
                                          go_simp
                                          with_reducible rfl
                                        rotate_left
                                        · simp only [Act.put, List.setIfInBounds_toArray, List.set_cons_zero, List.set_cons_succ, i64_w, i32_w]
                                          rfl
                                        refine take_ (i := 11) (N := some 79) (v := ?_) (a' := ?_) #[true, true, true, true, true, true, true, true, true, true, true, true, false, true, true, false, false, false, false, false, false] rfl rfl (take_ofW HT_.out HW_.out (by kernel_rfl)) (fun _ _ _ h => h) (Or.inl ⟨by rfl, ?_⟩) hHeld ?_ ?_
                                        rotate_left
                                        · rintro w' ⟨s0, s1, s2⟩
                                          go_simp
                                          with_reducible rfl
                                        rotate_left
                                        · simp only [Act.put, List.setIfInBounds_toArray, List.set_cons_zero, List.set_cons_succ, i64_w, i32_w]
                                          rfl
                                        refine pure_ (i := 12) (N := some 80) (v := ?_) (a' := ?_) #[true, true, true, true, true, true, true, true, true, true, true, true, true, true, true, false, false, false, false, false, false] rfl rfl (any_of HT_.out (by kernel_rfl)) (fun _ _ _ h => h) (Or.inl ⟨by rfl, ?_⟩) ?_ ?_
                                        rotate_left
                                        · intro w'
                                          go_simp
                                          with_reducible rfl
                                        rotate_left
                                        · simp only [Act.put, List.setIfInBounds_toArray, List.set_cons_zero, List.set_cons_succ, i64_w, i32_w]
                                          rfl
                                        refine take_ (i := 15) (N := some 83) (v := ?_) (a' := ?_) #[true, true, true, true, true, true, true, true, true, true, true, true, true, true, true, true, false, false, false, false, false] rfl rfl (take_ofW HT_.out HW_.out (by kernel_rfl)) (fun _ _ _ h => h) (Or.inl ⟨by rfl, ?_⟩) hHeld ?_ ?_
                                        rotate_left
                                        · rintro w' ⟨s0, s1, s2⟩
                                          go_simp
                                          with_reducible rfl
                                        rotate_left
                                        · simp only [Act.put, List.setIfInBounds_toArray, List.set_cons_zero, List.set_cons_succ, i64_w, i32_w]
                                          rfl
                                        refine pure_ (i := 16) (N := some 84) (v := ?_) (a' := ?_) #[true, true, true, true, true, true, true, true, true, true, true, true, true, true, true, true, true, false, false, false, false] rfl rfl (any_of HT_.out (by kernel_rfl)) (fun _ _ _ h => h) (Or.inl ⟨by rfl, ?_⟩) ?_ ?_
                                        rotate_left
                                        · intro w'
                                          go_simp
                                          with_reducible rfl
                                        rotate_left
                                        · simp only [Act.put, List.setIfInBounds_toArray, List.set_cons_zero, List.set_cons_succ, i64_w, i32_w]
                                          rfl
                                        refine pure_ (i := 17) (N := some 85) (v := ?_) (a' := ?_) #[true, true, true, true, true, true, true, true, true, true, true, true, true, true, true, true, true, true, false, false, false] rfl rfl (any_of HT_.out (by kernel_rfl)) (fun _ _ _ h => h) (Or.inl ⟨by rfl, ?_⟩) ?_ ?_
                                        rotate_left
                                        · intro w'
                                          go_simp
                                          with_reducible rfl
                                        rotate_left
                                        · simp only [Act.put, List.setIfInBounds_toArray, List.set_cons_zero, List.set_cons_succ, i64_w, i32_w]
                                          rfl
                                        refine pure_ (i := 18) (N := some 86) (v := ?_) (a' := ?_) #[true, true, true, true, true, true, true, true, true, true, true, true, true, true, true, true, true, true, true, false, false] rfl rfl (any_of HT_.out (by kernel_rfl)) (fun _ _ _ h => h) (Or.inl ⟨by rfl, ?_⟩) ?_ ?_
                                        rotate_left
                                        · intro w'
                                          go_simp
                                          with_reducible rfl
                                        rotate_left
                                        · simp only [Act.put, List.setIfInBounds_toArray, List.set_cons_zero, List.set_cons_succ, i64_w, i32_w]
                                          rfl
                                        refine pure_ (i := 19) (N := some 87) (v := ?_) (a' := ?_) #[true, true, true, true, true, true, true, true, true, true, true, true, true, true, true, true, true, true, true, true, false] rfl rfl (any_of HT_.out (by kernel_rfl)) (fun _ _ _ h => h) (Or.inl ⟨by rfl, ?_⟩) ?_ ?_
                                        rotate_left
                                        · intro w'
                                          go_simp
                                          with_reducible rfl
                                        rotate_left
                                        · simp only [Act.put, List.setIfInBounds_toArray, List.set_cons_zero, List.set_cons_succ, i64_w, i32_w]
                                          rfl
                                        refine last_ (i := 20) (N := none) #[true, true, true, true, true, true, true, true, true, true, true, true, true, true, true, true, true, true, true, true, true] rfl rfl (one_of HT_.out (by kernel_rfl)) (by decide) (fun K hK => ?_)
                                        refine skip_ (w1 := ?_) (by rfl) rfl ?_ ?_
                                        rotate_left
                                        · go_simp
                                          rfl
                                        refine hK.out _ _ ?_
                                        clear hK K
                                        refine done_ (done_of HT_.out (by kernel_rfl)) ?_
                                        try go_wp2
                                        go_roundg k3
                                        case measure => have := HK1.out; have := HJ15.out; have := HK3.out; omega
                                        case rel => exact ⟨(y199), (wrap64 (x63_3 + 1)), (by first | rfl | (simp; done) | (simp [*]; done)), H', ⟨by have := HK1.out; have := HJ15.out; have := HK3.out; omega⟩, ⟨by (with_reducible repeat (first | apply Kd.R_alloc | apply Kd.R_drewN | apply Kd.R_drew)); exact HQ49.out⟩, ⟨by (with_reducible repeat (first | apply Kd.R_alloc | apply Kd.R_drewN | apply Kd.R_drew)); exact Kd.R_mono (Kd.R_far (p := ⟨go43, (x63_3 : Int).toNat, none⟩) (Kd.R_types HO_61.out GG43.out (by decide)) (fun _ hk => hk.2) (.int .i64 (wrap64 ((ji37) + (ji41))))) (fun _ hk => trivial)⟩, ⟨by (with_reducible repeat (first | refine blk_drewN ?_ _ | refine blk_drew ?_ | refine blk_alloc ?_ _)); refine blk_far ?_ (by have h_ := Kd.R_ne HO_10.out BK186.out (by decide); intro e_; exact h_ (by rw [e_]; rfl)) _; (with_reducible repeat (first | refine blk_drewN ?_ _ | refine blk_drew ?_ | refine blk_alloc ?_ _)); exact BK186.out⟩, ⟨by repeat (first | (with_reducible first | exact HB.out | apply below_alloc | apply pw_below_drewN | apply below_drew1 | refine below_set ?_ GB43.out | refine below_set ?_ GE186.out | refine below_set ?_ GE197.out) | exact HB.out)⟩⟩
                                      · rw [if_neg c42] at H
                                        exact absurd H (by simp)
                                    · rw [if_neg c40] at H
                                      exact absurd H (by simp)
                                  · rw [if_neg c38] at H
                                    exact absurd H (by simp)
                                · rw [if_neg c36] at H
                                  exact absurd H (by simp)
                              · rw [if_neg c35] at H
                                exact absurd H (by simp)
                            · rw [if_neg c34] at H
                              exact absurd H (by simp)
                          · rw [if_neg c33] at H
                            have c33b0 : decide (x63_3 < (t193.length : Int)) = false := decide_eq_false c33
                            clear c33
                            simp only [Option.some.injEq, Prod.mk.injEq] at H
                            obtain ⟨rfl, rfl⟩ := H
                            go_wp2
                            go_ret2
                            exact ⟨_, by first | rfl | (simp [errW_none, errW_some] <;> rfl) | (simp [*, errW_none, errW_some] <;> rfl), by (with_reducible repeat (first | apply Kd.R_alloc | apply Kd.R_drewN | apply Kd.R_drew)); exact HO_10.out, by repeat (first | (with_reducible first | exact HB.out | apply below_alloc | apply pw_below_drewN | apply below_drew1 | refine below_set ?_ GE186.out) | exact HB.out)⟩
                    · rw [if_neg c26] at H
                      exact absurd H (by simp)
                  · rw [if_neg c25] at H
                    exact absurd H (by simp)
    · rw [if_neg c6] at H
      have c6b0 : ((l1.length : Int) == (l0_0.length : Int)) = false := beq_eq_false_iff_ne.mpr c6
      have c6b1 : ((l1.length : Int) != (l0_0.length : Int)) = true := bne_iff_ne.mpr c6
      have c6b2 : (l1.length == l0_0.length) = false := by first | simpa using c6 | (simp at c6 ⊢; omega)
      simp only [Option.some.injEq, Prod.mk.injEq] at H
      obtain ⟨rfl, rfl⟩ := H
      go_enter Try.func21, Try.ntmps21
      go_wp2_with (first | ((with_reducible refine gate_dst (N := 3) rfl ?_); (try (refine gate_guard (by rfl) ?_; dsimp only)); refine box_event ?hg (N := 3) ?hd (cs := #[.slice A0_0 l0_0.length c0_0, .slice A0_1 l0_1.length c0_1]) (t := 24) ?hr ?_; (case hd => rfl); (case hg => rfl); (case hr => first | (go_simp; done) | (go_simp; rfl)); intro gb186 hg w50 hbox hb; have n0_ := Aside0.mk (below_step (by repeat (first | (with_reducible first | exact HB.out | apply below_alloc | apply pw_below_drewN | apply below_drew1) | exact HB.out)) hb); have n1_ := Aside0.mk (hbox); have n2_ := Aside0.mk ((by rw [hg]; exact (below_size (by repeat (first | (with_reducible first | exact HB.out | apply below_alloc | apply pw_below_drewN | apply below_drew1) | exact HB.out))) : w.heap.size ≤ gb186)); have n3_ := Aside0.mk ((by rw [hg]; exact (below_size (by repeat (first | (with_reducible first | exact HB.out | apply below_alloc | apply pw_below_drewN | apply below_drew1) | exact HB.out))) : w.heap.size ≤ gb186)); clear HB; have HB := n0_; have BK186 := n1_; have GW186 := n2_; have GE186 := n3_; clear n0_ n1_ n2_ n3_; clear hb hbox hg; have hcz51_0 : w50.cell? ⟨gb186, 0, none⟩ = some (.slice A0_0 l0_0.length c0_0) := (blk_cell BK186.out 0).trans rfl; have hcz51_1 : w50.cell? ⟨gb186, 1, none⟩ = some (.slice A0_1 l0_1.length c0_1) := (blk_cell BK186.out 1).trans rfl; have hfz51_0 := blk_frozen BK186.out 0; have hfz51_1 := blk_frozen BK186.out 1) | ((with_reducible refine gate_callee (f := 17) rfl ?_); refine goesL_ (some 17) rfl rfl Try.func17 (by kernel_rfl) rfl #[.agg #[.slice A0_0 l0_0.length c0_0, .slice A0_1 l0_1.length c0_1], .int .i64 (l0_0.length : Int)] rfl (by (try simp only [List.map_toArray, List.map_cons, List.map_nil]); first | done | rfl | (simp only [List.length_drop, List.length_take]; rfl)) ?_; (with_reducible refine (split_Check.calls k _ _ l0_0 _ _ l0_1 (l0_0.length : Int) t187 _ ?side1 ?side2 ?side3 ?side4 A4.out).mono ?_); (case side1 => repeat (first | exact (Kd.C_below HR0_0.out HB.out) | (with_reducible refine Kd.C_alloc ?_ _) | (with_reducible refine Kd.C_drewN ?_ _) | (with_reducible refine Kd.C_drew ?_))); (case side2 => exact HC0_0.out); (case side3 => repeat (first | exact (Kd.C_below HR0_1.out HB.out) | (with_reducible refine Kd.C_alloc ?_ _) | (with_reducible refine Kd.C_drewN ?_ _) | (with_reducible refine Kd.C_drew ?_))); (case side4 => exact HC0_1.out); rintro e w52 ⟨rfl, hb⟩; refine ⟨_, rfl, ?_⟩; have n0_ := Aside0.mk (blk_below (g := gb186) (o := .cells #[.slice A0_0 l0_0.length c0_0, .slice A0_1 l0_1.length c0_1] 24 (0, 0)) (by (with_reducible repeat (first | refine blk_drewN ?_ _ | refine blk_drew ?_ | refine blk_alloc ?_ _)); exact BK186.out) hb); have n1_ := Aside0.mk (below_step (by repeat (first | (with_reducible first | exact HB.out | apply below_alloc | apply pw_below_drewN | apply below_drew1 | refine below_set ?_ GE186.out) | exact HB.out)) hb); clear BK186; clear HB; have BK186 := n0_; have HB := n1_; clear n0_ n1_; (try clear hb); (try clear hb2); (try clear hk); (try clear hi); have hcz53_0 : w52.cell? ⟨gb186, 0, none⟩ = some (.slice A0_0 l0_0.length c0_0) := (blk_cell BK186.out 0).trans rfl; have hcz53_1 : w52.cell? ⟨gb186, 1, none⟩ = some (.slice A0_1 l0_1.length c0_1) := (blk_cell BK186.out 1).trans rfl; have hfz53_0 := blk_frozen BK186.out 0; have hfz53_1 := blk_frozen BK186.out 1))
      go_ret2
      exact ⟨_, by first | rfl | (simp [errW_none, errW_some] <;> rfl) | (simp [*, errW_none, errW_some] <;> rfl), by first | exact Kd.R_nil _ _ _ _ _ | exact Kd.N_nil _ _ _ _ _ | exact Kd.V_nil _ _ _ _ _ | exact Kd.Q_nil _ _ _ _ _ | exact Kd.S_nil _ _ _ _ _, by repeat (first | (with_reducible first | exact HB.out | apply below_alloc | apply pw_below_drewN | apply below_drew1 | refine below_set ?_ GE186.out) | exact HB.out)⟩
  · rw [if_neg c5] at H
    have c5b0 : (t187 == 0) = false := beq_eq_false_iff_ne.mpr c5
    have c5b1 : (t187 != 0) = true := bne_iff_ne.mpr c5
    simp only [Option.some.injEq, Prod.mk.injEq] at H
    obtain ⟨rfl, rfl⟩ := H
    go_enter Try.func21, Try.ntmps21
    go_wp2_with (first | ((with_reducible refine gate_dst (N := 3) rfl ?_); (try (refine gate_guard (by rfl) ?_; dsimp only)); refine box_event ?hg (N := 3) ?hd (cs := #[.slice A0_0 l0_0.length c0_0, .slice A0_1 l0_1.length c0_1]) (t := 24) ?hr ?_; (case hd => rfl); (case hg => rfl); (case hr => first | (go_simp; done) | (go_simp; rfl)); intro gb186 hg w54 hbox hb; have n0_ := Aside0.mk (below_step (by repeat (first | (with_reducible first | exact HB.out | apply below_alloc | apply pw_below_drewN | apply below_drew1) | exact HB.out)) hb); have n1_ := Aside0.mk (hbox); have n2_ := Aside0.mk ((by rw [hg]; exact (below_size (by repeat (first | (with_reducible first | exact HB.out | apply below_alloc | apply pw_below_drewN | apply below_drew1) | exact HB.out))) : w.heap.size ≤ gb186)); have n3_ := Aside0.mk ((by rw [hg]; exact (below_size (by repeat (first | (with_reducible first | exact HB.out | apply below_alloc | apply pw_below_drewN | apply below_drew1) | exact HB.out))) : w.heap.size ≤ gb186)); clear HB; have HB := n0_; have BK186 := n1_; have GW186 := n2_; have GE186 := n3_; clear n0_ n1_ n2_ n3_; clear hb hbox hg; have hcz55_0 : w54.cell? ⟨gb186, 0, none⟩ = some (.slice A0_0 l0_0.length c0_0) := (blk_cell BK186.out 0).trans rfl; have hcz55_1 : w54.cell? ⟨gb186, 1, none⟩ = some (.slice A0_1 l0_1.length c0_1) := (blk_cell BK186.out 1).trans rfl; have hfz55_0 := blk_frozen BK186.out 0; have hfz55_1 := blk_frozen BK186.out 1) | ((with_reducible refine gate_callee (f := 17) rfl ?_); refine goesL_ (some 17) rfl rfl Try.func17 (by kernel_rfl) rfl #[.agg #[.slice A0_0 l0_0.length c0_0, .slice A0_1 l0_1.length c0_1], .int .i64 (l0_0.length : Int)] rfl (by (try simp only [List.map_toArray, List.map_cons, List.map_nil]); first | done | rfl | (simp only [List.length_drop, List.length_take]; rfl)) ?_; (with_reducible refine (split_Check.calls k _ _ l0_0 _ _ l0_1 (l0_0.length : Int) t187 _ ?side1 ?side2 ?side3 ?side4 A4.out).mono ?_); (case side1 => repeat (first | exact (Kd.C_below HR0_0.out HB.out) | (with_reducible refine Kd.C_alloc ?_ _) | (with_reducible refine Kd.C_drewN ?_ _) | (with_reducible refine Kd.C_drew ?_))); (case side2 => exact HC0_0.out); (case side3 => repeat (first | exact (Kd.C_below HR0_1.out HB.out) | (with_reducible refine Kd.C_alloc ?_ _) | (with_reducible refine Kd.C_drewN ?_ _) | (with_reducible refine Kd.C_drew ?_))); (case side4 => exact HC0_1.out); rintro e w56 ⟨rfl, hb⟩; refine ⟨_, rfl, ?_⟩; have n0_ := Aside0.mk (blk_below (g := gb186) (o := .cells #[.slice A0_0 l0_0.length c0_0, .slice A0_1 l0_1.length c0_1] 24 (0, 0)) (by (with_reducible repeat (first | refine blk_drewN ?_ _ | refine blk_drew ?_ | refine blk_alloc ?_ _)); exact BK186.out) hb); have n1_ := Aside0.mk (below_step (by repeat (first | (with_reducible first | exact HB.out | apply below_alloc | apply pw_below_drewN | apply below_drew1 | refine below_set ?_ GE186.out) | exact HB.out)) hb); clear BK186; clear HB; have BK186 := n0_; have HB := n1_; clear n0_ n1_; (try clear hb); (try clear hb2); (try clear hk); (try clear hi)))
    go_ret2
    exact ⟨_, by first | rfl | (simp [errW_none, errW_some] <;> rfl) | (simp [*, errW_none, errW_some] <;> rfl), by first | exact Kd.R_nil _ _ _ _ _ | exact Kd.N_nil _ _ _ _ _ | exact Kd.V_nil _ _ _ _ _ | exact Kd.Q_nil _ _ _ _ _ | exact Kd.S_nil _ _ _ _ _, by repeat (first | (with_reducible first | exact HB.out | apply below_alloc | apply pw_below_drewN | apply below_drew1 | refine below_set ?_ GE186.out) | exact HB.out)⟩
end Go.Proofs.Ytlidbaejhmamjaa.PB

namespace Go.Proofs.Ytlidbaejhmamjaa.PB
open Go.RowKit Go.Proofs.YtlidbaejhmamjaaW.PrintWords Go.Proofs.YtlidbaejhmamjaaW.PrintLast Go.Proofs.YtlidbaejhmamjaaW.PrintMore
attribute [local go_sem] max2_int min2_int max_two min_two max_three min_three max_four min_four   -- for this text's walks alone
set_option linter.unusedVariables false
set_option linter.unusedSimpArgs false
def ambitref18_SameInts.l0 : Nat → List Int → List Int → Int → Option (Bool)
  | 0, _, _, _ => none
  | k + 1, x0, x1, x5 => if x5 < (x0.length : Int) then (if 0 ≤ x5 then (if x5 < (x1.length : Int) then (if (rd x0 x5) = (rd x1 x5) then (ambitref18_SameInts.l0 k x0 x1 (wrap64 (x5 + 1))) else (some false)) else (none)) else (none)) else (some true)
def ambitref18_SameInts.f (k : Nat) (l0 : List Int) (l1 : List Int) : Option (Bool) := if (l0.length : Int) = (l1.length : Int) then (ambitref18_SameInts.l0 k l0 l1 0) else (some false)
set_option maxHeartbeats 8000000 in
set_option maxRecDepth 100000 in
theorem ambitref18_SameInts.calls (k : Nat) (A0 : Option Addr) (c0 : Nat) (l0 : List Int) (A1 : Option Addr) (c1 : Nat) (l1 : List Int) (r : Bool) (w : World) (hr0 : Kd.C (Kd.int .i64) w A0 l0.length l0) (hc0 : l0.length ≤ c0) (hr1 : Kd.C (Kd.int .i64) w A1 l1.length l1) (hc1 : l1.length ≤ c1) (h : ambitref18_SameInts.f k l0 l1 = some r) :
    Calls Try.prog 23 #[.slice A0 l0.length c0, .slice A1 l1.length c1] w fun e w' => e = .returned (.bool r) ∧ Drawn0 w w' := by
  have HR0 := Aside0.mk hr0
  have HC0 := Aside0.mk hc0
  clear hr0 hc0
  have HR1 := Aside0.mk hr1
  have HC1 := Aside0.mk hc1
  clear hr1 hc1
  have H : (if (l0.length : Int) = (l1.length : Int) then (ambitref18_SameInts.l0 k l0 l1 0) else (some false)) = some r := h
  clear h
  by_cases c3 : (l0.length : Int) = (l1.length : Int)
  · rw [if_pos c3] at H
    have c3b0 : ((l0.length : Int) == (l1.length : Int)) = true := beq_iff_eq.mpr c3
    have c3b1 : ((l0.length : Int) != (l1.length : Int)) = false := bne_eq_false_iff_eq.mpr c3
    have c3b2 : (l0.length == l1.length) = true := by first | simpa using c3 | (simp at c3 ⊢; omega)
    clear c3
    have H' := Aside0.mk H
    clear H
    go_enter Try.func23, Try.ntmps23
    go_wp2
    repeat (go_quiet (fail); try go_wp2)
    go_loopg [5] k (fun kq v5 w' => ∃ (x5_1 : Int), v5 = .int .i64 x5_1 ∧ Aside0 (ambitref18_SameInts.l0 kq l0 l1 x5_1 = some r) ∧ Aside0 (kq ≤ k) ∧ Drawn0 w w')
    case atStart => exact ⟨(0), (by first | rfl | (simp; done) | (simp [*]; done)), H', ⟨Nat.le_refl _⟩, by repeat (first | exact Drawn0.refl _ | apply Drawn0.step)⟩
    case round =>
      clear H'
      try clear c1
      try clear c2
      try clear p2
      try clear c3
      try clear c3b0
      try clear c3b1
      try clear c3b2
      obtain ⟨x5_1, rfl, HA, HK1, ⟨m1, rfl⟩⟩ := hrel
      cases gk with
      | zero => exact absurd HA.out (by simp [ambitref18_SameInts.l0])
      | succ k1 =>
        have H := HA.out
        clear HA
        simp only [ambitref18_SameInts.l0] at H
        by_cases c4 : x5_1 < (l0.length : Int)
        · rw [if_pos c4] at H
          have c4b0 : decide (x5_1 < (l0.length : Int)) = true := decide_eq_true c4
          clear c4
          by_cases c5 : 0 ≤ x5_1
          · rw [if_pos c5] at H
            have c5b0 : decide (0 ≤ x5_1) = true := decide_eq_true c5
            clear c5
            by_cases c6 : x5_1 < (l1.length : Int)
            · rw [if_pos c6] at H
              have c6b0 : decide (x5_1 < (l1.length : Int)) = true := decide_eq_true c6
              clear c6
              by_cases c7 : (rd l0 x5_1) = (rd l1 x5_1)
              · rw [if_pos c7] at H
                have c7b0 : ((rd l0 x5_1) == (rd l1 x5_1)) = true := beq_iff_eq.mpr c7
                have c7b1 : ((rd l0 x5_1) != (rd l1 x5_1)) = false := bne_eq_false_iff_eq.mpr c7
                clear c7
                have H' := Aside0.mk H
                clear H
                have p133 : 0 ≤ (x5_1 : Int) := of_decide_eq_true (by first | (with_reducible assumption) | assumption)
                have q133 : x5_1 < (l0.length : Int) := of_decide_eq_true (by first | (with_reducible assumption) | assumption)
                obtain ⟨ad133, e133, hx133_0⟩ := Kd.at_int HR0.out x5_1 p133 q133
                cases e133
                replace p133 := eq_true p133
                replace q133 := eq_true q133
                have p134 : 0 ≤ (x5_1 : Int) := of_decide_eq_true (by first | (with_reducible assumption) | assumption)
                have q134 : x5_1 < (l1.length : Int) := of_decide_eq_true (by first | (with_reducible assumption) | assumption)
                obtain ⟨ad134, e134, hx134_0⟩ := Kd.at_int HR1.out x5_1 p134 q134
                cases e134
                replace p134 := eq_true p134
                replace q134 := eq_true q134
                go_wp2
                repeat (go_quiet (fail); try go_wp2)
                go_roundg k1
                case measure => have := HK1.out; omega
                case rel => exact ⟨(wrap64 (x5_1 + 1)), (by first | rfl | (simp; done) | (simp [*]; done)), H', ⟨by have := HK1.out; omega⟩, by repeat (first | exact Drawn0.refl _ | apply Drawn0.step)⟩
              · rw [if_neg c7] at H
                have c7b0 : ((rd l0 x5_1) == (rd l1 x5_1)) = false := beq_eq_false_iff_ne.mpr c7
                have c7b1 : ((rd l0 x5_1) != (rd l1 x5_1)) = true := bne_iff_ne.mpr c7
                obtain rfl := Option.some.inj H
                have p133 : 0 ≤ (x5_1 : Int) := of_decide_eq_true (by first | (with_reducible assumption) | assumption)
                have q133 : x5_1 < (l0.length : Int) := of_decide_eq_true (by first | (with_reducible assumption) | assumption)
                obtain ⟨ad133, e133, hx133_0⟩ := Kd.at_int HR0.out x5_1 p133 q133
                cases e133
                replace p133 := eq_true p133
                replace q133 := eq_true q133
                have p134 : 0 ≤ (x5_1 : Int) := of_decide_eq_true (by first | (with_reducible assumption) | assumption)
                have q134 : x5_1 < (l1.length : Int) := of_decide_eq_true (by first | (with_reducible assumption) | assumption)
                obtain ⟨ad134, e134, hx134_0⟩ := Kd.at_int HR1.out x5_1 p134 q134
                cases e134
                replace p134 := eq_true p134
                replace q134 := eq_true q134
                go_wp2
                repeat (go_quiet (fail); try go_wp2)
                go_ret
                exact ⟨by first | rfl | (simp; done) | (simp [*]; done), by repeat (first | exact Drawn0.refl _ | apply Drawn0.step)⟩
            · rw [if_neg c6] at H
              exact absurd H (by simp)
          · rw [if_neg c5] at H
            exact absurd H (by simp)
        · rw [if_neg c4] at H
          have c4b0 : decide (x5_1 < (l0.length : Int)) = false := decide_eq_false c4
          clear c4
          obtain rfl := Option.some.inj H
          go_wp2
          repeat (go_quiet (fail); try go_wp2)
          go_ret
          exact ⟨by first | rfl | (simp; done) | (simp [*]; done), by repeat (first | exact Drawn0.refl _ | apply Drawn0.step)⟩
  · rw [if_neg c3] at H
    have c3b0 : ((l0.length : Int) == (l1.length : Int)) = false := beq_eq_false_iff_ne.mpr c3
    have c3b1 : ((l0.length : Int) != (l1.length : Int)) = true := bne_iff_ne.mpr c3
    have c3b2 : (l0.length == l1.length) = false := by first | simpa using c3 | (simp at c3 ⊢; omega)
    obtain rfl := Option.some.inj H
    go_enter Try.func23, Try.ntmps23
    go_wp2
    repeat (go_quiet (fail); try go_wp2)
    go_ret
    exact ⟨by first | rfl | (simp; done) | (simp [*]; done), by repeat (first | exact Drawn0.refl _ | apply Drawn0.step)⟩
end Go.Proofs.Ytlidbaejhmamjaa.PB

namespace Go.Proofs.Ytlidbaejhmamjaa.LW
open Go.RowKit Go.Proofs.YtlidbaejhmamjaaW.PrintWords Go.Proofs.YtlidbaejhmamjaaW.PrintLast Go.Proofs.YtlidbaejhmamjaaW.PrintMore Go.Proofs.Ytlidbaejhmamjaa.PB Go.Proofs.Ytlidbaejhmamjaa.LA Go.Proofs.Ytlidbaejhmamjaa.AC
set_option linter.unusedVariables false
set_option linter.unusedSimpArgs false
/-- A row of whole numbers that is read. -/
structure Rd (w : World) (A : Option Addr) (c : Nat) (xs : List Int) : Prop where
  row : Kd.C (Kd.int .i64) w A xs.length xs
  cap : xs.length ≤ c
/-- A region's box. -/
def Bx (w : World) (g : Nat) (A0 : Option Addr) (n0 c0 : Nat) (A1 : Option Addr) (n1 c1 : Nat) : Prop := w.heap[g]? = some (.cells #[.slice A0 n0 c0, .slice A1 n1 c1] 24 (0, 0))
theorem Rd.step {w w' : World} {A : Option Addr} {c : Nat} {xs : List Int} (h : Rd w A c xs) (hb : Below w.heap.size w w') : Rd w' A c xs := ⟨Kd.C_below h.row hb, h.cap⟩
theorem Rd.of_R {w : World} {base : Nat} {ok : Nat → Prop} {v : Value} {xs : List Int} (h : Kd.R (Kd.int .i64) 3 w base ok v xs) : ∃ A c, v = .slice A xs.length c ∧ Rd w A c xs := by
  obtain ⟨A, c, rfl⟩ := Kd.R_slice h
  have := Kd.R_reads' h
  exact ⟨A, c, rfl, this.2.2, this.2.1⟩
theorem Rd.put {w w' : World} {A : Option Addr} {c : Nat} {xs : List Int} (h : Rd w A c xs) {g : Nat} {A0 A1 : Option Addr} {n0 c0 n1 c1 : Nat} (hk : Bx w g A0 n0 c0 A1 n1 c1) (hg : w.grownBy w' (some g)) : Rd w' A c xs := by
  refine ⟨⟨h.row.1, h.row.2.1, fun hn => ?_⟩, h.cap⟩
  obtain ⟨ad, e, hc⟩ := h.row.2.2 hn
  refine ⟨ad, e, fun j p hj => ?_⟩
  obtain ⟨cs, hs, hr, hcell⟩ := hc j p hj
  refine ⟨cs, hs, hr, fun i u hu => ?_⟩
  have hold := hcell i u hu
  have hu2 : u = .int .i64 p := by
    have hr2 : cs = [Value.int .i64 p] := hr
    subst hr2
    cases i with
    | zero => exact (Option.some.inj hu).symm
    | succ i => cases hu
  by_cases hb : (ad.add (j * (Kd.int .i64).sz + i)).block = g
  · exfalso
    unfold World.cell? at hold
    rw [hb, hk, hu2] at hold
    simp only at hold
    split at hold
    · cases hold
    · generalize (ad.add (j * (Kd.int .i64).sz + i)).off = o at hold
      match o with
      | 0 => simp at hold
      | 1 => simp at hold
      | o + 2 => simp at hold
  · rw [World.cell?_of_block (w := w) (hg.block _ (by
      unfold World.cell? at hold
      split at hold
      · rename_i h1; exact blk_lt h1
      · cases hold) (fun e => hb (Option.some.inj e)))]
    exact hold
theorem Bx.step {w w' : World} {g : Nat} {A0 A1 : Option Addr} {n0 c0 n1 c1 : Nat} (h : Bx w g A0 n0 c0 A1 n1 c1) (hb : Below w.heap.size w w') : Bx w' g A0 n0 c0 A1 n1 c1 := blk_below h hb
theorem Bx.put {w w' : World} {g g' : Nat} {A0 A1 : Option Addr} {n0 c0 n1 c1 : Nat} (h : Bx w g A0 n0 c0 A1 n1 c1) (hg : w.grownBy w' (some g')) (hne : g ≠ g') : Bx w' g A0 n0 c0 A1 n1 c1 := grown_blk hg h (fun e => hne (Option.some.inj e))
theorem Bx.lt {w : World} {g : Nat} {A0 A1 : Option Addr} {n0 c0 n1 c1 : Nat} (h : Bx w g A0 n0 c0 A1 n1 c1) : g < w.heap.size := blk_lt h
theorem Bx.c0 {w : World} {g : Nat} {A0 A1 : Option Addr} {n0 c0 n1 c1 : Nat} (h : Bx w g A0 n0 c0 A1 n1 c1) : w.cell? ⟨g, 0, none⟩ = some (.slice A0 n0 c0) := (blk_cell h 0).trans rfl
theorem Bx.c1 {w : World} {g : Nat} {A0 A1 : Option Addr} {n0 c0 n1 c1 : Nat} (h : Bx w g A0 n0 c0 A1 n1 c1) : w.cell? ⟨g, 1, none⟩ = some (.slice A1 n1 c1) := (blk_cell h 1).trans rfl
theorem info24 : (Try.prog.info? 24).map (·.size) = some 2 := by kernel_rfl
theorem slices_one (A0 A1 : Option Addr) (n0 c0 n1 c1 : Nat) : (#[Value.slice A0 n0 c0, .slice A1 n1 c1] : Array Value).all (·.oneCell') = true := by simp [Value.oneCell']
theorem awake_vals : ∃ (p0 p1 a0 a1 b0 b1 l y1 y2 y3 y4 y5 : List Int), split_Whole.f 40 2 = some (p0, p1, 0) ∧ split_Halve.f 40 p0 p1 1 = some (a0, a1, b0, b1, 0) ∧ split_Way.f 40 b0 b1 = some (1, 0) ∧ split_Ends.f 40 b0 b1 y1 1 = some (l, 0) ∧
    ambitref18_SameInts.f 40 l y2 = some true ∧ split_Check.f 40 p0 p1 2 = some 0 ∧ decide (Win a0 a1 y3 0) = true ∧ decide (Win b0 b1 y4 0) = false ∧ ambitref18_SameInts.f 40 b1 y5 = some true ∧
    y1 = [1, -1] ∧ y2 = [2, 0] ∧ y3 = [0, -1] ∧ y4 = [0, -1] ∧ y5 = [0, 1] :=
  ⟨[0, 0], [0, 0], [0, 1], [0, 0], [0, 1], [0, 1], [2, 0], _, _, _, _, _, by kernel_rfl, by kernel_rfl, by kernel_rfl, by kernel_rfl, by kernel_rfl, by kernel_rfl, by decide +kernel, by decide +kernel, by kernel_rfl, rfl, rfl, rfl, rfl, rfl⟩
end Go.Proofs.Ytlidbaejhmamjaa.LW

namespace Go.Proofs.Ytlidbaejhmamjaa.LW
open Go.RowKit Go.Proofs.YtlidbaejhmamjaaW.PrintWords Go.Proofs.YtlidbaejhmamjaaW.PrintLast Go.Proofs.YtlidbaejhmamjaaW.PrintMore Go.Proofs.Ytlidbaejhmamjaa.PB Go.Proofs.Ytlidbaejhmamjaa.LA Go.Proofs.Ytlidbaejhmamjaa.AC
set_option linter.unusedVariables false
set_option linter.unusedSimpArgs false
theorem drawn0_below {w w' : World} (h : Drawn0 w w') : Below w.heap.size w w' := by
  obtain ⟨n, rfl⟩ := h
  exact below_drewN (Below.refl _ _) n
set_option maxRecDepth 100000 in
set_option maxHeartbeats 4000000 in
theorem awake_calls (w : World) : Calls Try.prog 14 #[] w fun e w' => e = .returned (.bool true) ∧ Below w.heap.size w w' := by
  obtain ⟨p0, p1, a0, a1, b0, b1, l, y1, y2, y3, y4, y5, h1, h2, h3, h4, h5, h6, h7, h8, h9, e1, e2, e3, e4, e5⟩ := awake_vals
  have F1 := Aside0.mk h1
  have F2 := Aside0.mk h2
  have F3 := Aside0.mk h3
  have F4 := Aside0.mk h4
  have F5 := Aside0.mk h5
  have F6 := Aside0.mk h6
  have F7 := Aside0.mk h7
  have F8 := Aside0.mk h8
  have F9 := Aside0.mk h9
  have E1 := Aside0.mk e1
  have E2 := Aside0.mk e2
  have E3 := Aside0.mk e3
  have E4 := Aside0.mk e4
  have E5 := Aside0.mk e5
  have HI3 := Aside0.mk (show I64 y3 by rw [e3]; intro x hx; simp at hx; omega)
  have HI4 := Aside0.mk (show I64 y4 by rw [e4]; intro x hx; simp at hx; omega)
  clear h1 h2 h3 h4 h5 h6 h7 h8 h9 e1 e2 e3 e4 e5
  have hu24 := Try.underlying24
  have HB := Aside0.mk (Below.refl w.heap.size w)
  go_enter Try.func14, Try.ntmps14
  go_wp2_with fail
  refine (split_Whole.calls 40 2 p0 p1 0 w F1.out).mono ?_
  rintro e w1 ⟨v0, v1, rfl, h0, h1, hb⟩
  obtain ⟨A_p0, c_p0, rfl, r_p0⟩ := Rd.of_R h0
  obtain ⟨A_p1, c_p1, rfl, r_p1⟩ := Rd.of_R h1
  replace HB := Aside0.mk (below_step HB.out hb)
  have R_p0 := Aside0.mk r_p0
  have R_p1 := Aside0.mk r_p1
  clear hb r_p0 h0 r_p1 h1
  go_wp2_with (first
    | ((with_reducible refine gate_dst (N := 1) rfl ?_); refine box_event rfl (N := 1) rfl (cs := #[.slice none 0 0, .slice none 0 0]) (t := 24) ?hr ?_; (case hr => first | (go_simp; done) | (go_simp; rfl)); intro g_p hg_ w2 hw_ hb_; have L_p := Aside0.mk (show w.heap.size ≤ g_p by have := HB.out.size; omega); replace R_p0 := Aside0.mk (R_p0.out.step hb_); replace R_p1 := Aside0.mk (R_p1.out.step hb_); replace HB := Aside0.mk (below_step HB.out hb_); have K_p := Aside0.mk (show Bx w2 g_p none 0 0 none 0 0 from hw_); clear hg_ hw_ hb_)
    | ((with_reducible refine gate_store (t := 24) (p := 1) rfl ?_); refine store_row_event rfl 24 rfl rfl g_p #[.slice A_p0 p0.length c_p0, .slice A_p1 p1.length c_p1] rfl rfl 24 _ K_p.out (info24.trans rfl) rfl (slices_one _ _ _ _ _ _) ?_; intro w3 hw_ hg_; replace R_p0 := Aside0.mk (R_p0.out.put K_p.out hg_); replace R_p1 := Aside0.mk (R_p1.out.put K_p.out hg_); replace HB := Aside0.mk (HB.out.grown hg_ HB.out.size (fun k_ hk_ => by cases hk_; exact L_p.out)); replace K_p := Aside0.mk (show Bx w3 g_p A_p0 p0.length c_p0 A_p1 p1.length c_p1 from hw_); clear hw_ hg_; have c_p_0 := K_p.out.c0; have c_p_1 := K_p.out.c1)
    | fail)
  refine (split_Halve.calls 40 A_p0 c_p0 p0 A_p1 c_p1 p1 1 a0 a1 b0 b1 0 w3 R_p0.out.row R_p0.out.cap R_p1.out.row R_p1.out.cap F2.out).mono ?_
  rintro e w4 ⟨v0, v1, v2, v3, rfl, h0, h1, h2, h3, hb⟩
  clear c_p_0 c_p_1
  obtain ⟨A_a0, c_a0, rfl, r_a0⟩ := Rd.of_R h0
  obtain ⟨A_a1, c_a1, rfl, r_a1⟩ := Rd.of_R h1
  obtain ⟨A_b0, c_b0, rfl, r_b0⟩ := Rd.of_R h2
  obtain ⟨A_b1, c_b1, rfl, r_b1⟩ := Rd.of_R h3
  replace R_p0 := Aside0.mk (R_p0.out.step hb); replace R_p1 := Aside0.mk (R_p1.out.step hb); replace K_p := Aside0.mk (K_p.out.step hb); replace HB := Aside0.mk (below_step HB.out hb)
  have R_a0 := Aside0.mk r_a0
  have R_a1 := Aside0.mk r_a1
  have R_b0 := Aside0.mk r_b0
  have R_b1 := Aside0.mk r_b1
  clear hb r_a0 h0 r_a1 h1 r_b0 h2 r_b1 h3
  go_wp2_with (first
    | ((with_reducible refine gate_dst (N := 3) rfl ?_); refine box_event rfl (N := 3) rfl (cs := #[.slice none 0 0, .slice none 0 0]) (t := 24) ?hr ?_; (case hr => first | (go_simp; done) | (go_simp; rfl)); intro g_a hg_ w5 hw_ hb_; have N_a_p := Aside0.mk (show g_p ≠ g_a by have := K_p.out.lt; omega); have L_a := Aside0.mk (show w.heap.size ≤ g_a by have := HB.out.size; omega); replace R_p0 := Aside0.mk (R_p0.out.step hb_); replace R_p1 := Aside0.mk (R_p1.out.step hb_); replace R_a0 := Aside0.mk (R_a0.out.step hb_); replace R_a1 := Aside0.mk (R_a1.out.step hb_); replace R_b0 := Aside0.mk (R_b0.out.step hb_); replace R_b1 := Aside0.mk (R_b1.out.step hb_); replace K_p := Aside0.mk (K_p.out.step hb_); replace HB := Aside0.mk (below_step HB.out hb_); have K_a := Aside0.mk (show Bx w5 g_a none 0 0 none 0 0 from hw_); clear hg_ hw_ hb_)
    | ((with_reducible refine gate_dst (N := 4) rfl ?_); refine box_event rfl (N := 4) rfl (cs := #[.slice none 0 0, .slice none 0 0]) (t := 24) ?hr ?_; (case hr => first | (go_simp; done) | (go_simp; rfl)); intro g_b hg_ w6 hw_ hb_; have N_b_p := Aside0.mk (show g_p ≠ g_b by have := K_p.out.lt; omega); have N_b_a := Aside0.mk (show g_a ≠ g_b by have := K_a.out.lt; omega); have L_b := Aside0.mk (show w.heap.size ≤ g_b by have := HB.out.size; omega); replace R_p0 := Aside0.mk (R_p0.out.step hb_); replace R_p1 := Aside0.mk (R_p1.out.step hb_); replace R_a0 := Aside0.mk (R_a0.out.step hb_); replace R_a1 := Aside0.mk (R_a1.out.step hb_); replace R_b0 := Aside0.mk (R_b0.out.step hb_); replace R_b1 := Aside0.mk (R_b1.out.step hb_); replace K_p := Aside0.mk (K_p.out.step hb_); replace K_a := Aside0.mk (K_a.out.step hb_); replace HB := Aside0.mk (below_step HB.out hb_); have K_b := Aside0.mk (show Bx w6 g_b none 0 0 none 0 0 from hw_); clear hg_ hw_ hb_)
    | ((with_reducible refine gate_store (t := 24) (p := 3) rfl ?_); refine store_row_event rfl 24 rfl rfl g_a #[.slice A_a0 a0.length c_a0, .slice A_a1 a1.length c_a1] rfl rfl 24 _ K_a.out (info24.trans rfl) rfl (slices_one _ _ _ _ _ _) ?_; intro w7 hw_ hg_; replace R_p0 := Aside0.mk (R_p0.out.put K_a.out hg_); replace R_p1 := Aside0.mk (R_p1.out.put K_a.out hg_); replace R_a0 := Aside0.mk (R_a0.out.put K_a.out hg_); replace R_a1 := Aside0.mk (R_a1.out.put K_a.out hg_); replace R_b0 := Aside0.mk (R_b0.out.put K_a.out hg_); replace R_b1 := Aside0.mk (R_b1.out.put K_a.out hg_); replace K_p := Aside0.mk (K_p.out.put hg_ N_a_p.out); replace K_b := Aside0.mk (K_b.out.put hg_ N_b_a.out.symm); replace HB := Aside0.mk (HB.out.grown hg_ HB.out.size (fun k_ hk_ => by cases hk_; exact L_a.out)); replace K_a := Aside0.mk (show Bx w7 g_a A_a0 a0.length c_a0 A_a1 a1.length c_a1 from hw_); clear hw_ hg_; have c_a_0 := K_a.out.c0; have c_a_1 := K_a.out.c1)
    | ((with_reducible refine gate_store (t := 24) (p := 4) rfl ?_); refine store_row_event rfl 24 rfl rfl g_b #[.slice A_b0 b0.length c_b0, .slice A_b1 b1.length c_b1] rfl rfl 24 _ K_b.out (info24.trans rfl) rfl (slices_one _ _ _ _ _ _) ?_; intro w8 hw_ hg_; replace R_p0 := Aside0.mk (R_p0.out.put K_b.out hg_); replace R_p1 := Aside0.mk (R_p1.out.put K_b.out hg_); replace R_a0 := Aside0.mk (R_a0.out.put K_b.out hg_); replace R_a1 := Aside0.mk (R_a1.out.put K_b.out hg_); replace R_b0 := Aside0.mk (R_b0.out.put K_b.out hg_); replace R_b1 := Aside0.mk (R_b1.out.put K_b.out hg_); replace K_p := Aside0.mk (K_p.out.put hg_ N_b_p.out); replace K_a := Aside0.mk (K_a.out.put hg_ N_b_a.out); replace HB := Aside0.mk (HB.out.grown hg_ HB.out.size (fun k_ hk_ => by cases hk_; exact L_b.out)); replace K_b := Aside0.mk (show Bx w8 g_b A_b0 b0.length c_b0 A_b1 b1.length c_b1 from hw_); clear hw_ hg_; have c_b_0 := K_b.out.c0; have c_b_1 := K_b.out.c1)
    | fail)
  refine (split_Way.calls 40 A_b0 c_b0 b0 A_b1 c_b1 b1 1 0 w8 R_b0.out.row R_b0.out.cap R_b1.out.row R_b1.out.cap F3.out).mono ?_
  rintro e w9 ⟨rfl, hb⟩
  clear c_a_0 c_a_1 c_b_0 c_b_1
  replace R_p0 := Aside0.mk (R_p0.out.step hb); replace R_p1 := Aside0.mk (R_p1.out.step hb); replace R_a0 := Aside0.mk (R_a0.out.step hb); replace R_a1 := Aside0.mk (R_a1.out.step hb); replace R_b0 := Aside0.mk (R_b0.out.step hb); replace R_b1 := Aside0.mk (R_b1.out.step hb); replace K_p := Aside0.mk (K_p.out.step hb); replace K_a := Aside0.mk (K_a.out.step hb); replace K_b := Aside0.mk (K_b.out.step hb); replace HB := Aside0.mk (below_step HB.out hb)
  clear hb
  have c_b_0 := K_b.out.c0
  have c_b_1 := K_b.out.c1
  go_wp2_with (first
    | ((with_reducible refine gate_dst (N := 27) rfl ?_); (try (refine gate_guard (by rfl) ?_; dsimp only)); refine Kd.R_lit (Kd.int .i64) _ 3 ?hg (N := 27) ?hd (xs := ([1, (-1)] : List Int)) (inner := [.int .i64 1, .int .i64 (-1)]) (ok := fun _ => True) (okp := fun _ => True) ?hr ?hp (fun _ hk => hk) trivial (Below.refl _ _) (Nat.le_refl _) (by simp) ?_; (case hd => rfl); (case hg => rfl); (case hr => first | (go_simp; done) | (go_simp; rfl)); (case hp => exact (Reps.one (show Kd.M (Kd.int .i64) _ _ _ 1 [.int .i64 1] from rfl) (Reps.one (show Kd.M (Kd.int .i64) _ _ _ (-1) [.int .i64 (-1)] from rfl) (Reps.none _ _)))); intro v_ w10 ho_ hb_ hg_ hnew_; clear hg_ hnew_; rw [← E1.out] at ho_; obtain ⟨A_y1, c_y1, rfl, hr_⟩ := Rd.of_R ho_; replace R_p0 := Aside0.mk (R_p0.out.step hb_); replace R_p1 := Aside0.mk (R_p1.out.step hb_); replace R_a0 := Aside0.mk (R_a0.out.step hb_); replace R_a1 := Aside0.mk (R_a1.out.step hb_); replace R_b0 := Aside0.mk (R_b0.out.step hb_); replace R_b1 := Aside0.mk (R_b1.out.step hb_); replace K_p := Aside0.mk (K_p.out.step hb_); replace K_a := Aside0.mk (K_a.out.step hb_); replace K_b := Aside0.mk (K_b.out.step hb_); replace HB := Aside0.mk (below_step HB.out hb_); have R_y1 := Aside0.mk hr_; clear ho_ hb_ hr_)
    | fail)
  refine (split_Ends.calls 40 A_b0 c_b0 b0 A_b1 c_b1 b1 A_y1 c_y1 y1 1 l 0 w10 R_b0.out.row R_b0.out.cap R_b1.out.row R_b1.out.cap R_y1.out.row R_y1.out.cap F4.out).mono ?_
  rintro e w11 ⟨v0, rfl, h0, hb⟩
  clear c_b_0 c_b_1
  obtain ⟨A_l, c_l, rfl, r_l⟩ := Rd.of_R h0
  replace R_p0 := Aside0.mk (R_p0.out.step hb); replace R_p1 := Aside0.mk (R_p1.out.step hb); replace R_a0 := Aside0.mk (R_a0.out.step hb); replace R_a1 := Aside0.mk (R_a1.out.step hb); replace R_b0 := Aside0.mk (R_b0.out.step hb); replace R_b1 := Aside0.mk (R_b1.out.step hb); replace R_y1 := Aside0.mk (R_y1.out.step hb); replace K_p := Aside0.mk (K_p.out.step hb); replace K_a := Aside0.mk (K_a.out.step hb); replace K_b := Aside0.mk (K_b.out.step hb); replace HB := Aside0.mk (below_step HB.out hb)
  have R_l := Aside0.mk r_l
  clear hb r_l h0
  go_wp2_with (first
    | ((with_reducible refine gate_dst (N := 51) rfl ?_); (try (refine gate_guard (by rfl) ?_; dsimp only)); refine Kd.R_lit (Kd.int .i64) _ 3 ?hg (N := 51) ?hd (xs := ([2, 0] : List Int)) (inner := [.int .i64 2, .int .i64 0]) (ok := fun _ => True) (okp := fun _ => True) ?hr ?hp (fun _ hk => hk) trivial (Below.refl _ _) (Nat.le_refl _) (by simp) ?_; (case hd => rfl); (case hg => rfl); (case hr => first | (go_simp; done) | (go_simp; rfl)); (case hp => exact (Reps.one (show Kd.M (Kd.int .i64) _ _ _ 2 [.int .i64 2] from rfl) (Reps.one (show Kd.M (Kd.int .i64) _ _ _ 0 [.int .i64 0] from rfl) (Reps.none _ _)))); intro v_ w12 ho_ hb_ hg_ hnew_; clear hg_ hnew_; rw [← E2.out] at ho_; obtain ⟨A_y2, c_y2, rfl, hr_⟩ := Rd.of_R ho_; replace R_p0 := Aside0.mk (R_p0.out.step hb_); replace R_p1 := Aside0.mk (R_p1.out.step hb_); replace R_a0 := Aside0.mk (R_a0.out.step hb_); replace R_a1 := Aside0.mk (R_a1.out.step hb_); replace R_b0 := Aside0.mk (R_b0.out.step hb_); replace R_b1 := Aside0.mk (R_b1.out.step hb_); replace R_y1 := Aside0.mk (R_y1.out.step hb_); replace R_l := Aside0.mk (R_l.out.step hb_); replace K_p := Aside0.mk (K_p.out.step hb_); replace K_a := Aside0.mk (K_a.out.step hb_); replace K_b := Aside0.mk (K_b.out.step hb_); replace HB := Aside0.mk (below_step HB.out hb_); have R_y2 := Aside0.mk hr_; clear ho_ hb_ hr_)
    | fail)
  refine (ambitref18_SameInts.calls 40 A_l c_l l A_y2 c_y2 y2 true w12 R_l.out.row R_l.out.cap R_y2.out.row R_y2.out.cap F5.out).mono ?_
  rintro e w13 ⟨rfl, hd⟩
  have hb := drawn0_below hd
  clear hd
  replace R_p0 := Aside0.mk (R_p0.out.step hb); replace R_p1 := Aside0.mk (R_p1.out.step hb); replace R_a0 := Aside0.mk (R_a0.out.step hb); replace R_a1 := Aside0.mk (R_a1.out.step hb); replace R_b0 := Aside0.mk (R_b0.out.step hb); replace R_b1 := Aside0.mk (R_b1.out.step hb); replace R_y1 := Aside0.mk (R_y1.out.step hb); replace R_l := Aside0.mk (R_l.out.step hb); replace R_y2 := Aside0.mk (R_y2.out.step hb); replace K_p := Aside0.mk (K_p.out.step hb); replace K_a := Aside0.mk (K_a.out.step hb); replace K_b := Aside0.mk (K_b.out.step hb); replace HB := Aside0.mk (below_step HB.out hb)
  clear hb
  have c_p_0 := K_p.out.c0
  have c_a_0 := K_a.out.c0
  have c_b_0 := K_b.out.c0
  have c_p_1 := K_p.out.c1
  have c_a_1 := K_a.out.c1
  have c_b_1 := K_b.out.c1
  go_wp2_with fail
  refine (split_Check.calls 40 A_p0 c_p0 p0 A_p1 c_p1 p1 2 0 w13 R_p0.out.row R_p0.out.cap R_p1.out.row R_p1.out.cap F6.out).mono ?_
  rintro e w14 ⟨rfl, hb⟩
  clear c_p_0 c_p_1 c_a_0 c_a_1 c_b_0 c_b_1
  replace R_p0 := Aside0.mk (R_p0.out.step hb); replace R_p1 := Aside0.mk (R_p1.out.step hb); replace R_a0 := Aside0.mk (R_a0.out.step hb); replace R_a1 := Aside0.mk (R_a1.out.step hb); replace R_b0 := Aside0.mk (R_b0.out.step hb); replace R_b1 := Aside0.mk (R_b1.out.step hb); replace R_y1 := Aside0.mk (R_y1.out.step hb); replace R_l := Aside0.mk (R_l.out.step hb); replace R_y2 := Aside0.mk (R_y2.out.step hb); replace K_p := Aside0.mk (K_p.out.step hb); replace K_a := Aside0.mk (K_a.out.step hb); replace K_b := Aside0.mk (K_b.out.step hb); replace HB := Aside0.mk (below_step HB.out hb)
  clear hb
  have c_p_0 := K_p.out.c0
  have c_a_0 := K_a.out.c0
  have c_b_0 := K_b.out.c0
  have c_p_1 := K_p.out.c1
  have c_a_1 := K_a.out.c1
  have c_b_1 := K_b.out.c1
  go_wp2_with (first
    | ((with_reducible refine gate_dst (N := 60) rfl ?_); (try (refine gate_guard (by rfl) ?_; dsimp only)); refine Kd.R_lit (Kd.int .i64) _ 3 ?hg (N := 60) ?hd (xs := ([0, (-1)] : List Int)) (inner := [.int .i64 0, .int .i64 (-1)]) (ok := fun _ => True) (okp := fun _ => True) ?hr ?hp (fun _ hk => hk) trivial (Below.refl _ _) (Nat.le_refl _) (by simp) ?_; (case hd => rfl); (case hg => rfl); (case hr => first | (go_simp; done) | (go_simp; rfl)); (case hp => exact (Reps.one (show Kd.M (Kd.int .i64) _ _ _ 0 [.int .i64 0] from rfl) (Reps.one (show Kd.M (Kd.int .i64) _ _ _ (-1) [.int .i64 (-1)] from rfl) (Reps.none _ _)))); intro v_ w15 ho_ hb_ hg_ hnew_; clear hg_ hnew_; rw [← E3.out] at ho_; obtain ⟨A_y3, c_y3, rfl, hr_⟩ := Rd.of_R ho_; replace R_p0 := Aside0.mk (R_p0.out.step hb_); replace R_p1 := Aside0.mk (R_p1.out.step hb_); replace R_a0 := Aside0.mk (R_a0.out.step hb_); replace R_a1 := Aside0.mk (R_a1.out.step hb_); replace R_b0 := Aside0.mk (R_b0.out.step hb_); replace R_b1 := Aside0.mk (R_b1.out.step hb_); replace R_y1 := Aside0.mk (R_y1.out.step hb_); replace R_l := Aside0.mk (R_l.out.step hb_); replace R_y2 := Aside0.mk (R_y2.out.step hb_); replace K_p := Aside0.mk (K_p.out.step hb_); replace K_a := Aside0.mk (K_a.out.step hb_); replace K_b := Aside0.mk (K_b.out.step hb_); replace HB := Aside0.mk (below_step HB.out hb_); have R_y3 := Aside0.mk hr_; clear ho_ hb_ hr_)
    | fail)
  refine (within_calls A_a0 c_a0 a0 A_a1 c_a1 a1 A_y3 c_y3 y3 0 w15 R_a0.out.row R_a0.out.cap R_a1.out.row R_a1.out.cap R_y3.out.row R_y3.out.cap HI3.out).mono ?_
  rw [F7.out]
  rintro e w16 ⟨rfl, hb⟩
  clear c_p_0 c_p_1 c_a_0 c_a_1 c_b_0 c_b_1
  replace R_p0 := Aside0.mk (R_p0.out.step hb); replace R_p1 := Aside0.mk (R_p1.out.step hb); replace R_a0 := Aside0.mk (R_a0.out.step hb); replace R_a1 := Aside0.mk (R_a1.out.step hb); replace R_b0 := Aside0.mk (R_b0.out.step hb); replace R_b1 := Aside0.mk (R_b1.out.step hb); replace R_y1 := Aside0.mk (R_y1.out.step hb); replace R_l := Aside0.mk (R_l.out.step hb); replace R_y2 := Aside0.mk (R_y2.out.step hb); replace R_y3 := Aside0.mk (R_y3.out.step hb); replace K_p := Aside0.mk (K_p.out.step hb); replace K_a := Aside0.mk (K_a.out.step hb); replace K_b := Aside0.mk (K_b.out.step hb); replace HB := Aside0.mk (below_step HB.out hb)
  clear hb
  have c_p_0 := K_p.out.c0
  have c_a_0 := K_a.out.c0
  have c_b_0 := K_b.out.c0
  have c_p_1 := K_p.out.c1
  have c_a_1 := K_a.out.c1
  have c_b_1 := K_b.out.c1
  go_wp2_with (first
    | ((with_reducible refine gate_dst (N := 65) rfl ?_); (try (refine gate_guard (by rfl) ?_; dsimp only)); refine Kd.R_lit (Kd.int .i64) _ 3 ?hg (N := 65) ?hd (xs := ([0, (-1)] : List Int)) (inner := [.int .i64 0, .int .i64 (-1)]) (ok := fun _ => True) (okp := fun _ => True) ?hr ?hp (fun _ hk => hk) trivial (Below.refl _ _) (Nat.le_refl _) (by simp) ?_; (case hd => rfl); (case hg => rfl); (case hr => first | (go_simp; done) | (go_simp; rfl)); (case hp => exact (Reps.one (show Kd.M (Kd.int .i64) _ _ _ 0 [.int .i64 0] from rfl) (Reps.one (show Kd.M (Kd.int .i64) _ _ _ (-1) [.int .i64 (-1)] from rfl) (Reps.none _ _)))); intro v_ w17 ho_ hb_ hg_ hnew_; clear hg_ hnew_; rw [← E4.out] at ho_; obtain ⟨A_y4, c_y4, rfl, hr_⟩ := Rd.of_R ho_; replace R_p0 := Aside0.mk (R_p0.out.step hb_); replace R_p1 := Aside0.mk (R_p1.out.step hb_); replace R_a0 := Aside0.mk (R_a0.out.step hb_); replace R_a1 := Aside0.mk (R_a1.out.step hb_); replace R_b0 := Aside0.mk (R_b0.out.step hb_); replace R_b1 := Aside0.mk (R_b1.out.step hb_); replace R_y1 := Aside0.mk (R_y1.out.step hb_); replace R_l := Aside0.mk (R_l.out.step hb_); replace R_y2 := Aside0.mk (R_y2.out.step hb_); replace R_y3 := Aside0.mk (R_y3.out.step hb_); replace K_p := Aside0.mk (K_p.out.step hb_); replace K_a := Aside0.mk (K_a.out.step hb_); replace K_b := Aside0.mk (K_b.out.step hb_); replace HB := Aside0.mk (below_step HB.out hb_); have R_y4 := Aside0.mk hr_; clear ho_ hb_ hr_)
    | fail)
  refine (within_calls A_b0 c_b0 b0 A_b1 c_b1 b1 A_y4 c_y4 y4 0 w17 R_b0.out.row R_b0.out.cap R_b1.out.row R_b1.out.cap R_y4.out.row R_y4.out.cap HI4.out).mono ?_
  rw [F8.out]
  rintro e w18 ⟨rfl, hb⟩
  clear c_p_0 c_p_1 c_a_0 c_a_1 c_b_0 c_b_1
  replace R_p0 := Aside0.mk (R_p0.out.step hb); replace R_p1 := Aside0.mk (R_p1.out.step hb); replace R_a0 := Aside0.mk (R_a0.out.step hb); replace R_a1 := Aside0.mk (R_a1.out.step hb); replace R_b0 := Aside0.mk (R_b0.out.step hb); replace R_b1 := Aside0.mk (R_b1.out.step hb); replace R_y1 := Aside0.mk (R_y1.out.step hb); replace R_l := Aside0.mk (R_l.out.step hb); replace R_y2 := Aside0.mk (R_y2.out.step hb); replace R_y3 := Aside0.mk (R_y3.out.step hb); replace R_y4 := Aside0.mk (R_y4.out.step hb); replace K_p := Aside0.mk (K_p.out.step hb); replace K_a := Aside0.mk (K_a.out.step hb); replace K_b := Aside0.mk (K_b.out.step hb); replace HB := Aside0.mk (below_step HB.out hb)
  clear hb
  have c_p_0 := K_p.out.c0
  have c_a_0 := K_a.out.c0
  have c_b_0 := K_b.out.c0
  have c_p_1 := K_p.out.c1
  have c_a_1 := K_a.out.c1
  have c_b_1 := K_b.out.c1
  go_wp2_with (first
    | ((with_reducible refine gate_dst (N := 72) rfl ?_); (try (refine gate_guard (by rfl) ?_; dsimp only)); refine Kd.R_lit (Kd.int .i64) _ 3 ?hg (N := 72) ?hd (xs := ([0, 1] : List Int)) (inner := [.int .i64 0, .int .i64 1]) (ok := fun _ => True) (okp := fun _ => True) ?hr ?hp (fun _ hk => hk) trivial (Below.refl _ _) (Nat.le_refl _) (by simp) ?_; (case hd => rfl); (case hg => rfl); (case hr => first | (go_simp; done) | (go_simp; rfl)); (case hp => exact (Reps.one (show Kd.M (Kd.int .i64) _ _ _ 0 [.int .i64 0] from rfl) (Reps.one (show Kd.M (Kd.int .i64) _ _ _ 1 [.int .i64 1] from rfl) (Reps.none _ _)))); intro v_ w19 ho_ hb_ hg_ hnew_; clear hg_ hnew_; rw [← E5.out] at ho_; obtain ⟨A_y5, c_y5, rfl, hr_⟩ := Rd.of_R ho_; replace R_p0 := Aside0.mk (R_p0.out.step hb_); replace R_p1 := Aside0.mk (R_p1.out.step hb_); replace R_a0 := Aside0.mk (R_a0.out.step hb_); replace R_a1 := Aside0.mk (R_a1.out.step hb_); replace R_b0 := Aside0.mk (R_b0.out.step hb_); replace R_b1 := Aside0.mk (R_b1.out.step hb_); replace R_y1 := Aside0.mk (R_y1.out.step hb_); replace R_l := Aside0.mk (R_l.out.step hb_); replace R_y2 := Aside0.mk (R_y2.out.step hb_); replace R_y3 := Aside0.mk (R_y3.out.step hb_); replace R_y4 := Aside0.mk (R_y4.out.step hb_); replace K_p := Aside0.mk (K_p.out.step hb_); replace K_a := Aside0.mk (K_a.out.step hb_); replace K_b := Aside0.mk (K_b.out.step hb_); replace HB := Aside0.mk (below_step HB.out hb_); have R_y5 := Aside0.mk hr_; clear ho_ hb_ hr_)
    | fail)
  refine (ambitref18_SameInts.calls 40 A_b1 c_b1 b1 A_y5 c_y5 y5 true w19 R_b1.out.row R_b1.out.cap R_y5.out.row R_y5.out.cap F9.out).mono ?_
  rintro e w20 ⟨rfl, hd⟩
  have hb := drawn0_below hd
  clear hd
  replace HB := Aside0.mk (below_step HB.out hb)
  clear hb
  clear c_p_0 c_p_1 c_a_0 c_a_1 c_b_0 c_b_1
  go_wp2_with fail
  go_ret
  exact ⟨by first | done | rfl, HB.out⟩
end Go.Proofs.Ytlidbaejhmamjaa.LW

namespace Go.Proofs.Ytlidbaejhmamjaa.PB
open Go.RowKit Go.Proofs.YtlidbaejhmamjaaW.PrintWords Go.Proofs.YtlidbaejhmamjaaW.PrintLast Go.Proofs.YtlidbaejhmamjaaW.PrintMore
set_option linter.unusedVariables false
instance (es : List Int) : Decidable (AC.I64 es) := by unfold AC.I64; infer_instance
end Go.Proofs.Ytlidbaejhmamjaa.PB

namespace Go.Proofs.Ytlidbaejhmamjaa.LA
open Go.RowKit Go.Proofs.YtlidbaejhmamjaaW.PrintWords Go.Proofs.YtlidbaejhmamjaaW.PrintLast Go.Proofs.YtlidbaejhmamjaaW.PrintMore Go.Proofs.Ytlidbaejhmamjaa.PB
set_option linter.unusedVariables false
set_option linter.unusedSimpArgs false
theorem rd_nat (xs : List Int) (i : Nat) (h : i < xs.length) : rd xs (i : Int) = xs[i] := by simp [rd, h]
theorem rd_set_same (xs : List Int) (i : Nat) (v : Int) (h : i < xs.length) : rd (xs.set i v) (i : Int) = v := by simp [rd, h]
theorem rd_set_other (xs : List Int) (i j : Nat) (v : Int) (h : i ≠ j) : rd (xs.set i v) (j : Int) = rd xs (j : Int) := by simp [rd, List.getD_eq_getElem?_getD, List.getElem?_set_ne h]
theorem pz_set : ∀ (lv at_ : List Int) (i : Nat) (a b : Int), (pz lv at_).set i ⟨a, b⟩ = pz (lv.set i a) (at_.set i b)
  | [], _, i, a, b => by simp [pz]
  | _ :: _, [], i, a, b => by simp [pz]
  | x :: lv, y :: at_, 0, a, b => by simp [pz]
  | x :: lv, y :: at_, i + 1, a, b => by
    have := pz_set lv at_ i a b
    simp [pz] at this ⊢
    exact this
theorem pz_f0 : ∀ (lv at_ : List Int), at_.length = lv.length → (pz lv at_).map (·.f0) = lv
  | [], [], _ => rfl
  | x :: lv, y :: at_, h => by
    have := pz_f0 lv at_ (by simpa using h)
    simp [pz] at this ⊢
    exact this
theorem pz_f1 : ∀ (lv at_ : List Int), at_.length = lv.length → (pz lv at_).map (·.f1) = at_
  | [], [], _ => rfl
  | x :: lv, y :: at_, h => by
    have := pz_f1 lv at_ (by simpa using h)
    simp [pz] at this ⊢
    exact this
def HOk (lv at_ : List Int) (s : Int) : Prop := Reg lv at_ ∧ 0 ≤ s ∧ s < lv.length ∧ rd lv s ≠ 8
instance (lv at_ : List Int) (s : Int) : Decidable (HOk lv at_ s) := by unfold HOk; infer_instance
def hE (lv at_ : List Int) (s : Int) : Int := if HOk lv at_ s then 0 else if Reg lv at_ then 1 else 180
def hL (lv at_ : List Int) (s : Int) : List Int := if HOk lv at_ s then lv.set s.toNat (rd lv s + 1) else []
def hA (lv at_ : List Int) (s : Int) : List Int := if HOk lv at_ s then at_.set s.toNat (2 * rd at_ s) else []
def hB (lv at_ : List Int) (s : Int) : List Int := if HOk lv at_ s then at_.set s.toNat (2 * rd at_ s + 1) else []
theorem fit_at {l a : Int} (h : Fit l a) : 0 ≤ a ∧ a < 256 := by
  obtain ⟨h0, h1, h2, h3⟩ := h
  have h4 : (2 : Int) ^ l.toNat ≤ 2 ^ 8 := by
    have := Nat.pow_le_pow_right (n := 2) (by decide) (show l.toNat ≤ 8 by omega)
    exact_mod_cast this
  have e : (2 : Int) ^ 8 = 256 := by decide
  omega
theorem chk_self (lv at_ : List Int) : chkE lv at_ lv.length = if Reg lv at_ then 0 else 180 := by
  unfold chkE
  exact ite_cong ⟨fun h => h.2, fun h => ⟨rfl, h⟩⟩ _ _
theorem Halve_ev (lv at_ : List Int) (s : Int) : EvS (fun k => split_Halve.f k lv at_ s) (hL lv at_ s, hA lv at_ s, hL lv at_ s, hB lv at_ s, hE lv at_ s) := by
  unfold split_Halve.f
  refine EvS.bind (Check_ev lv at_ _) ?_
  rw [chk_self]
  by_cases hr : Reg lv at_
  · simp only [if_pos hr, if_true]
    refine EvS.bind (parts_ev lv at_ hr.2.1 hr.1) ?_
    have bad : ¬ HOk lv at_ s → EvS (fun k => split_Halve.j0 k s (pz lv at_) true) (hL lv at_ s, hA lv at_ s, hL lv at_ s, hB lv at_ s, hE lv at_ s) := fun h => by
      unfold hL hA hB hE
      simp only [if_neg h, if_pos hr]
      exact EvS.done fun k => by simp only [split_Halve.j0]; rfl
    by_cases h0 : s < 0
    · simp only [if_pos h0]; exact bad (fun h => by have := h.2.1; omega)
    · by_cases h1 : s ≥ (lv.length : Int)
      · simp only [if_neg h0, if_pos h1]; exact bad (fun h => by have := h.2.2.1; omega)
      · obtain ⟨i, rfl⟩ : ∃ i : Nat, s = i := ⟨s.toNat, by omega⟩
        have hi : i < lv.length := by omega
        have hp := pz_rd lv at_ i hi (by have := hr.2.1; omega)
        have hl := pz_length lv at_ hr.2.1
        simp only [if_neg h0, if_neg h1, if_pos (show (0 : Int) ≤ (i : Int) by omega), if_pos (show (i : Int) < ((pz lv at_).length : Int) by omega), hp]
        by_cases h8 : rd lv (i : Int) = 8
        · rw [show (rd lv (i : Int) == 8) = true by rw [h8]; rfl]
          exact bad (fun h => h.2.2.2 h8)
        · rw [show (rd lv (i : Int) == 8) = false from beq_eq_false_iff_ne.mpr h8]
          have hok : HOk lv at_ (i : Int) := ⟨hr, by omega, by omega, h8⟩
          have hf := hr.2.2 i hi
          have ha := fit_at hf
          have hl0 := hf.1
          have hl1 := hf.2.1
          have hia : i < at_.length := by have := hr.2.1; omega
          refine EvS.succ (fun k => by simp only [split_Halve.j0]; rfl) ?_
          simp only [Bool.false_eq_true, if_false, if_pos (show (0 : Int) ≤ (i : Int) by omega), if_pos (show (i : Int) < ((pz lv at_).length : Int) by omega), hp, Option.bind_some, Int.toNat_natCast, w64 (rd lv (i : Int) + 1) (by omega) (by omega), w64 (2 * rd at_ (i : Int)) (by omega) (by omega), pz_set]
          refine EvS.bind (region_ev _ (by rw [pz_length _ _ (by simp [hr.2.1])]; simp; exact hr.1)) ?_
          have hp2 := pz_rd (lv.set i (rd lv (i : Int) + 1)) (at_.set i (2 * rd at_ (i : Int))) i (by simp [hi]) (by simp [hia])
          rw [rd_set_same _ _ _ hi, rd_set_same _ _ _ hia] at hp2
          simp only [hp2, w64 (2 * rd at_ (i : Int) + 1) (by omega) (by omega), List.set_set, pz_f0 (lv.set i (rd lv (i : Int) + 1)) (at_.set i (2 * rd at_ (i : Int))) (by simp [hr.2.1]), pz_f1 (lv.set i (rd lv (i : Int) + 1)) (at_.set i (2 * rd at_ (i : Int))) (by simp [hr.2.1])]
          refine EvS.bind (region_ev _ (by rw [pz_length _ _ (by simp [hr.2.1])]; simp; exact hr.1)) ?_
          have hp3 := pz_rd (lv.set i (rd lv (i : Int) + 1)) (at_.set i (2 * rd at_ (i : Int) + 1)) i (by simp [hi]) (by simp [hia])
          rw [rd_set_same _ _ _ hi, rd_set_same _ _ _ hia] at hp3
          have hne : (rd lv (i : Int) + 1 == rd lv (i : Int)) = false := beq_eq_false_iff_ne.mpr (by omega)
          simp only [hp3, hne, Bool.false_and, Bool.false_eq_true, if_false, pz_f0 (lv.set i (rd lv (i : Int) + 1)) (at_.set i (2 * rd at_ (i : Int) + 1)) (by simp [hr.2.1]), pz_f1 (lv.set i (rd lv (i : Int) + 1)) (at_.set i (2 * rd at_ (i : Int) + 1)) (by simp [hr.2.1])]
          unfold hL hA hB hE
          simp only [if_pos hok, Int.toNat_natCast]
          exact EvS.pure _
  · have hn : ¬ HOk lv at_ s := fun h => hr h.1
    simp only [if_neg hr, if_neg (show ¬ ((180 : Int) = 0) by decide)]
    unfold hL hA hB hE
    simp only [if_neg hn, if_neg hr]
    exact EvS.pure _
def wayN (lv at_ : List Int) : Int := if Reg lv at_ then lv.sum else 0
def wayE (lv at_ : List Int) : Int := if Reg lv at_ then 0 else 180
theorem sum_take (lv : List Int) (i : Nat) (h : i < lv.length) : (lv.take (i + 1)).sum = (lv.take i).sum + rd lv (i : Int) := by
  rw [List.take_add_one, List.getElem?_eq_getElem h, List.sum_append, rd_nat lv i h]
  simp
theorem sum_bound (lv at_ : List Int) (hr : Reg lv at_) : ∀ i, i ≤ lv.length → 0 ≤ (lv.take i).sum ∧ (lv.take i).sum ≤ 8 * i
  | 0, _ => by simp
  | i + 1, h => by
    have ih := sum_bound lv at_ hr i (by omega)
    have hf := hr.2.2 i (by omega)
    have h0 := hf.1
    have h1 := hf.2.1
    rw [sum_take lv i (by omega)]
    omega
theorem Way_ev (lv at_ : List Int) : EvS (fun k => split_Way.f k lv at_) (wayN lv at_, wayE lv at_) := by
  unfold split_Way.f
  refine EvS.bind (Check_ev lv at_ _) ?_
  rw [chk_self]
  by_cases hr : Reg lv at_
  · simp only [if_pos hr, if_true, wayN, wayE]
    have key : ∀ m i : Nat, m + i = lv.length → EvS (fun k => split_Way.l0 k (lv.take i).sum lv (lv.length : Int) (i : Int)) (lv.sum, 0) := by
      intro m
      induction m with
      | zero =>
        intro i hi
        rw [List.take_of_length_le (by omega)]
        exact EvS.done fun k => by simp only [split_Way.l0]; rw [if_neg (by omega)]
      | succ m ih =>
        intro i hi
        refine EvS.succ (fun k => ?_) (ih (i + 1) (by omega))
        have b := sum_bound lv at_ hr (i + 1) (by omega)
        have hl := hr.1
        rw [sum_take lv i (by omega)] at b ⊢
        simp only [split_Way.l0]
        rw [if_pos (by omega), if_pos (by omega), if_pos (by omega), wnext i (by omega), w64 _ (by omega) (by omega)]
    simpa using key lv.length 0 (by omega)
  · simp only [if_neg hr, if_neg (show ¬ ((180 : Int) = 0) by decide), wayN, wayE]
    exact EvS.pure _
end Go.Proofs.Ytlidbaejhmamjaa.LA

namespace Go.Proofs.Ytlidbaejhmamjaa.LA
open Go.RowKit Go.Proofs.YtlidbaejhmamjaaW.PrintWords Go.Proofs.YtlidbaejhmamjaaW.PrintLast Go.Proofs.YtlidbaejhmamjaaW.PrintMore Go.Proofs.Ytlidbaejhmamjaa.PB
set_option linter.unusedVariables false
set_option linter.unusedSimpArgs false
/-- A point of one symbol's part, in parts of 2 to the depth. -/
def endv (d l a s : Int) : Int := (2 * a + 1 + s) * 2 ^ (d - l).toNat - 2 ^ d.toNat
def EOk (lv at_ sg : List Int) (d : Int) : Prop := Reg lv at_ ∧ sg.length = lv.length ∧ (∀ i, i < sg.length → -1 ≤ rd sg (i : Nat) ∧ rd sg (i : Nat) ≤ 1) ∧ 0 ≤ d ∧ d ≤ 8 ∧ ∀ i, i < lv.length → rd lv (i : Nat) ≤ d
instance (lv at_ sg : List Int) (d : Int) : Decidable (EOk lv at_ sg d) := by unfold EOk; infer_instance
def eE (lv at_ sg : List Int) (d : Int) : Int := if EOk lv at_ sg d then 0 else if Reg lv at_ then (if sg.length = lv.length then 1 else 63) else 180
def eRow (lv at_ sg : List Int) (d : Int) (i : Nat) : Int := endv d (rd lv (i : Nat)) (rd at_ (i : Nat)) (rd sg (i : Nat))
def eL (lv at_ sg : List Int) (d : Int) : List Int := if EOk lv at_ sg d then (List.range lv.length).map (eRow lv at_ sg d) else []
theorem pow_256 (n : Nat) (h : n ≤ 8) : (0 : Int) < 2 ^ n ∧ (2 : Int) ^ n ≤ 256 := by
  have h4 : (2 : Int) ^ n ≤ 2 ^ 8 := by
    have := Nat.pow_le_pow_right (n := 2) (by decide) h
    exact_mod_cast this
  have e : (2 : Int) ^ 8 = 256 := by decide
  exact ⟨Int.pow_pos (by decide), by omega⟩
theorem mul_256 (x : Int) (n : Nat) (h : n ≤ 8) (h0 : -1000 ≤ x) (h1 : x ≤ 1000) : -256000 ≤ x * 2 ^ n ∧ x * 2 ^ n ≤ 256000 := by
  obtain ⟨p0, p1⟩ := pow_256 n h
  generalize (2 : Int) ^ n = P at *
  have a1 : x * P ≤ 1000 * P := Int.mul_le_mul_of_nonneg_right h1 (by omega)
  have a2 : -1000 * P ≤ x * P := Int.mul_le_mul_of_nonneg_right h0 (by omega)
  omega
theorem shl_eq (x n : Int) (h0 : 0 ≤ n) (h8 : n ≤ 8) (x0 : -1000 ≤ x) (x1 : x ≤ 1000) : shl .i64 x n = x * 2 ^ n.toNat := by
  obtain ⟨m, rfl⟩ : ∃ m : Nat, n = m := ⟨n.toNat, by omega⟩
  show IntKind.i64.wrap (x * 2 ^ min (m : Int).toNat 64) = _
  rw [Int.toNat_natCast, Nat.min_eq_left (by omega), i64_w, w64]
  · have := (mul_256 x m (by omega) x0 x1).1; omega
  · have := (mul_256 x m (by omega) x0 x1).2; omega
theorem Max_ev (l : List Int) (h : 0 < l.length) (hn : l.length ≤ 256) : ∃ m, EvS (fun k => slices_Max_int_int.f k l) m ∧ (∀ i : Nat, i < l.length → rd l (i : Nat) ≤ m) ∧ ∃ i : Nat, i < l.length ∧ rd l (i : Nat) = m := by
  have key : ∀ n (i : Nat) (x : Int), n + i = l.length → 0 < i → (∀ j : Nat, j < i → rd l (j : Nat) ≤ x) → (∃ j : Nat, j < i ∧ rd l (j : Nat) = x) →
      ∃ m, EvS (fun k => slices_Max_int_int.l0 k l x (i : Int)) m ∧ (∀ i : Nat, i < l.length → rd l (i : Nat) ≤ m) ∧ ∃ i : Nat, i < l.length ∧ rd l (i : Nat) = m := by
    intro n
    induction n with
    | zero =>
      intro i x hi _ h1 h2
      obtain rfl : i = l.length := by omega
      exact ⟨x, EvS.done fun k => by simp only [slices_Max_int_int.l0]; rw [if_neg (by omega)], h1, h2⟩
    | succ n ih =>
      intro i x hi hp h1 h2
      obtain ⟨m, hm, hm1, hm2⟩ := ih (i + 1) (mx x (rd l (i : Int))) (by omega) (by omega) (fun j hj => by
        unfold mx
        by_cases hji : j = i
        · subst hji; split <;> omega
        · have := h1 j (by omega); split <;> omega) (by
        unfold mx
        split
        · exact ⟨i, by omega, rfl⟩
        · obtain ⟨j, hj, e⟩ := h2; exact ⟨j, by omega, e⟩)
      refine ⟨m, EvS.succ (fun k => ?_) hm, hm1, hm2⟩
      simp only [slices_Max_int_int.l0]
      rw [if_pos (by omega), if_pos (by omega), wnext i (by omega)]
  have one : ∀ j : Nat, j < 1 → rd l (j : Nat) ≤ rd l 0 := fun j hj => by
    have : j = 0 := by omega
    subst this
    exact Int.le_refl _
  obtain ⟨m, hm, r⟩ := key (l.length - 1) 1 (rd l 0) (by omega) (by omega) one ⟨0, by omega, rfl⟩
  refine ⟨m, ?_, r⟩
  unfold slices_Max_int_int.f
  simp only [if_neg (show ¬ (l.length : Int) < 1 by omega)]
  refine EvS.succ (fun k => ?_) hm
  simp only [slices_Max_int_int.j0]
  rw [if_pos (by omega)]
  rfl
section
variable (lv at_ sg : List Int) (d : Int)
theorem e_bad (hr : Reg lv at_) (hl : sg.length = lv.length) (h : ¬ EOk lv at_ sg d) : (eL lv at_ sg d, eE lv at_ sg d) = ([], 1) := by
  unfold eL eE
  rw [if_neg h, if_neg h, if_pos hr, if_pos hl]
/-- One point of the list, as the program reckons it. -/
theorem one_end (l a s : Int) (hf : Fit l a) (hs : -1 ≤ s ∧ s ≤ 1) (hl : l ≤ d) (d0 : 0 ≤ d) (d8 : d ≤ 8) :
    wrap64 (d - l) = d - l ∧ wrap64 (wrap64 (wrap64 (2 * a) + 1) + s) = 2 * a + 1 + s ∧ shl .i64 (2 * a + 1 + s) (d - l) = (2 * a + 1 + s) * 2 ^ (d - l).toNat ∧ shl .i64 (-1) d = -2 ^ d.toNat ∧ shl .i64 1 d = 2 ^ d.toNat ∧
      wrap64 (-2 ^ d.toNat + (2 * a + 1 + s) * 2 ^ (d - l).toNat) = endv d l a s ∧ wrap64 ((2 * a + 1 + s) * 2 ^ (d - l).toNat - 2 ^ d.toNat) = endv d l a s := by
  have ha := fit_at hf
  have h0 := hf.1
  have p := pow_256 d.toNat (by omega)
  have q := mul_256 (2 * a + 1 + s) (d - l).toNat (by omega) (by omega) (by omega)
  refine ⟨w64 _ (by omega) (by omega), ?_, shl_eq _ _ (by omega) (by omega) (by omega) (by omega), ?_, ?_, ?_, ?_⟩
  · rw [w64 (2 * a) (by omega) (by omega), w64 (2 * a + 1) (by omega) (by omega), w64 _ (by omega) (by omega)]
  · rw [shl_eq _ _ d0 d8 (by omega) (by omega)]; omega
  · rw [shl_eq _ _ d0 d8 (by omega) (by omega)]; omega
  · unfold endv; rw [w64 _ (by omega) (by omega)]; omega
  · unfold endv; rw [w64 _ (by omega) (by omega)]
theorem Ends_ev : EvS (fun k => split_Ends.f k lv at_ sg d) (eL lv at_ sg d, eE lv at_ sg d) := by
  unfold split_Ends.f
  refine EvS.bind (Check_ev lv at_ _) ?_
  rw [chk_self]
  by_cases hr : Reg lv at_
  · simp only [if_pos hr, if_true]
    by_cases hl : sg.length = lv.length
    · simp only [if_pos (show (sg.length : Int) = (lv.length : Int) by omega)]
      have hn := hr.1
      have bad : ¬ EOk lv at_ sg d → EvS (fun k => split_Ends.j1 k sg d true lv at_) (eL lv at_ sg d, eE lv at_ sg d) := fun h => by
        rw [e_bad lv at_ sg d hr hl h]
        exact EvS.done fun k => by simp only [split_Ends.j1]; rfl
      have good : EOk lv at_ sg d → EvS (fun k => split_Ends.j1 k sg d false lv at_) (eL lv at_ sg d, eE lv at_ sg d) := fun h => by
        unfold eL eE
        simp only [if_pos h]
        refine EvS.succ (fun k => by simp only [split_Ends.j1]; rfl) ?_
        simp only [Bool.false_eq_true, if_false, if_pos (show 0 ≤ (sg.length : Int) by omega), Int.toNat_natCast, if_pos (show sg.length ≤ 35184372088832 by omega)]
        refine EvS.bind (parts_ev lv at_ hr.2.1 hr.1) ?_
        rw [pz_length lv at_ hr.2.1]
        have key : ∀ m i : Nat, m + i = lv.length → EvS (fun k => split_Ends.l1 k sg d (((List.range lv.length).map (eRow lv at_ sg d)).take i ++ List.replicate (lv.length - i) 0) (pz lv at_) (lv.length : Int) (i : Int)) ((List.range lv.length).map (eRow lv at_ sg d), 0) := by
          intro m
          induction m with
          | zero =>
            intro i hi
            rw [List.take_of_length_le (by simp; omega), show lv.length - i = 0 by omega]
            exact EvS.done fun k => by simp only [split_Ends.l1]; rw [if_neg (by omega)]; simp
          | succ m ih =>
            intro i hi
            refine EvS.succ (fun k => ?_) (ih (i + 1) (by omega))
            have hp := pz_rd lv at_ i (by omega) (by have := hr.2.1; omega)
            obtain ⟨e1, e2, e3, e4, e5, e6, e7⟩ := one_end d (rd lv (i : Int)) (rd at_ (i : Int)) (rd sg (i : Int)) (hr.2.2 i (by omega)) (h.2.2.1 i (by omega)) (h.2.2.2.2.2 i (by omega)) h.2.2.2.1 h.2.2.2.2.1
            have hs := set_step ((List.range lv.length).map (eRow lv at_ sg d)) i (by simp; omega)
            simp only [List.length_map, List.length_range, List.getElem_map, List.getElem_range] at hs
            simp only [split_Ends.l1, hp]
            rw [if_pos (by omega), if_pos (by omega), if_pos (by rw [pz_length lv at_ hr.2.1]; omega), if_pos h.2.2.2.1, if_pos (by omega), e1, if_pos (by have := h.2.2.2.2.2 i (by omega); omega), if_pos (by simp; omega), e2, e3, e4, e6, wnext i (by omega), Int.toNat_natCast]
            rw [← hs]
            rfl
        have := key lv.length 0 (by omega)
        rw [hl]
        simpa using this
      have key : ∀ m i : Nat, m + i = sg.length → (∀ j : Nat, j < i → -1 ≤ rd sg (j : Nat) ∧ rd sg (j : Nat) ≤ 1) → EvS (fun k => split_Ends.l0 k sg d sg (sg.length : Int) (i : Int) lv at_) (eL lv at_ sg d, eE lv at_ sg d) := by
        intro m
        induction m with
        | zero =>
          intro i hi hall
          obtain rfl : i = sg.length := by omega
          by_cases d0 : d < 0
          · refine EvS.succ (fun k => ?_) (bad (fun h => by have := h.2.2.2.1; omega))
            simp only [split_Ends.l0]
            rw [if_neg (by omega), if_pos d0]
          · by_cases d8 : d > 8
            · refine EvS.succ (fun k => ?_) (bad (fun h => by have := h.2.2.2.2.1; omega))
              simp only [split_Ends.l0]
              rw [if_neg (by omega), if_neg d0, if_pos d8]
            · by_cases hz : (lv.length : Int) > 0
              · refine EvS.succ (fun k => by simp only [split_Ends.l0]; rw [if_neg (by omega), if_neg d0, if_neg d8, if_pos hz]) ?_
                obtain ⟨x, hx, hx1, i, hi1, hx2⟩ := Max_ev lv (by omega) hn
                refine EvS.bind hx ?_
                by_cases hd : d < x
                · rw [decide_eq_true hd]
                  exact bad (fun h => by have := h.2.2.2.2.2 i hi1; omega)
                · rw [decide_eq_false hd]
                  exact good ⟨hr, hl, hall, by omega, by omega, fun i hi => by have := hx1 i hi; omega⟩
              · refine EvS.succ (fun k => ?_) (good ⟨hr, hl, hall, by omega, by omega, fun i hi => by omega⟩)
                simp only [split_Ends.l0]
                rw [if_neg (by omega), if_neg d0, if_neg d8, if_neg hz]
        | succ m ih =>
          intro i hi hall
          by_cases s0 : rd sg (i : Int) < -1
          · rw [e_bad lv at_ sg d hr hl (fun h => by have := h.2.2.1 i (by omega); omega)]
            exact EvS.done fun k => by
              simp only [split_Ends.l0]
              rw [if_pos (by omega), if_pos (by omega), if_pos (by omega), if_pos s0]
          · by_cases s1 : rd sg (i : Int) > 1
            · rw [e_bad lv at_ sg d hr hl (fun h => by have := h.2.2.1 i (by omega); omega)]
              exact EvS.done fun k => by
                simp only [split_Ends.l0]
                rw [if_pos (by omega), if_pos (by omega), if_pos (by omega), if_neg s0, if_pos s1]
            · refine EvS.succ (fun k => ?_) (ih (i + 1) (by omega) (fun j hj => by
                by_cases hji : j = i
                · subst hji; omega
                · exact hall j (by omega)))
              simp only [split_Ends.l0]
              rw [if_pos (by omega), if_pos (by omega), if_pos (by omega), if_neg s0, if_neg s1, wnext i (by omega)]
      exact key sg.length 0 (by omega) (fun j hj => by omega)
    · simp only [if_neg (show ¬ (sg.length : Int) = (lv.length : Int) by omega)]
      unfold eL eE
      simp only [if_neg (show ¬ EOk lv at_ sg d from fun h => hl h.2.1), if_pos hr, if_neg hl]
      exact EvS.pure _
  · have hn : ¬ EOk lv at_ sg d := fun h => hr h.1
    simp only [if_neg hr, if_neg (show ¬ ((180 : Int) = 0) by decide)]
    unfold eL eE
    simp only [if_neg hn, if_neg hr]
    exact EvS.pure _
end
end Go.Proofs.Ytlidbaejhmamjaa.LA

namespace Go.Proofs.Ytlidbaejhmamjaa.LA
open Go.RowKit Go.Proofs.YtlidbaejhmamjaaW.PrintWords Go.Proofs.YtlidbaejhmamjaaW.PrintLast Go.Proofs.YtlidbaejhmamjaaW.PrintMore Go.Proofs.Ytlidbaejhmamjaa.PB
set_option linter.unusedVariables false
set_option linter.unusedSimpArgs false
theorem rd_set (xs : List Int) (i j : Nat) (v : Int) (h : i < xs.length) : rd (xs.set i v) (j : Int) = if i = j then v else rd xs (j : Int) := by
  by_cases hij : i = j
  · subst hij; rw [if_pos rfl, rd_set_same _ _ _ h]
  · rw [if_neg hij, rd_set_other _ _ _ _ hij]
theorem fit_half {l a : Int} (h : Fit l a) (h8 : l ≠ 8) (b : Int) (hb : b = 0 ∨ b = 1) : Fit (l + 1) (2 * a + b) := by
  obtain ⟨h0, h1, h2, h3⟩ := h
  refine ⟨by omega, by omega, by omega, ?_⟩
  rw [show (l + 1).toNat = l.toNat + 1 by omega, Int.pow_succ]
  omega
theorem reg_set {lv at_ : List Int} {s : Int} (h : HOk lv at_ s) (b : Int) (hb : b = 0 ∨ b = 1) : Reg (lv.set s.toNat (rd lv s + 1)) (at_.set s.toNat (2 * rd at_ s + b)) := by
  obtain ⟨hr, h0, h1, h8⟩ := h
  obtain ⟨i, rfl⟩ : ∃ i : Nat, s = i := ⟨s.toNat, by omega⟩
  rw [Int.toNat_natCast]
  refine ⟨by simp; exact hr.1, by simp; exact hr.2.1, fun j hj => ?_⟩
  simp only [List.length_set] at hj
  rw [rd_set _ _ _ _ (by omega), rd_set _ _ _ _ (by have := hr.2.1; omega)]
  by_cases hij : i = j
  · rw [if_pos hij, if_pos hij]
    exact fit_half (hr.2.2 i (by omega)) h8 b hb
  · rw [if_neg hij, if_neg hij]
    exact hr.2.2 j hj
theorem halve_ok {lv at_ : List Int} {s : Int} (h : HOk lv at_ s) : hE lv at_ s = 0 ∧ Reg (hL lv at_ s) (hA lv at_ s) ∧ Reg (hL lv at_ s) (hB lv at_ s) ∧ (hL lv at_ s).length = lv.length := by
  unfold hE hL hA hB
  simp only [if_pos h]
  have h0 := reg_set h 0 (.inl rfl)
  rw [Int.add_zero] at h0
  exact ⟨trivial, h0, reg_set h 1 (.inr rfl), by simp⟩
theorem halve_bad {lv at_ : List Int} {s : Int} (h : ¬ HOk lv at_ s) : hE lv at_ s ≠ 0 := by
  unfold hE
  rw [if_neg h]
  split <;> decide
theorem whole_reg (k : Int) (h0 : 0 ≤ k) (h1 : k ≤ 256) : wholeE k = 0 ∧ Reg (wholeL k) (wholeL k) ∧ ((wholeL k).length : Int) = k := by
  unfold wholeE wholeL
  simp only [if_pos (And.intro h0 h1)]
  refine ⟨trivial, ⟨by simp; omega, rfl, fun i hi => ?_⟩, by simp; omega⟩
  have : rd (List.replicate k.toNat 0) (i : Int) = 0 := by rw [rd_nat _ _ hi]; simp
  rw [this]
  exact ⟨by decide, by decide, by decide, by decide⟩
theorem powsplit (a b : Nat) (h : a ≤ b) : (2 : Int) ^ b = 2 ^ a * 2 ^ (b - a) := by rw [← Int.pow_add]; congr 1; omega
theorem endv_nn (l a s d : Int) (hf : Fit l a) (hs : -1 ≤ s ∧ s ≤ 1) (hl : l ≤ d) (d8 : d ≤ 8) :
    0 ≤ (2 * a + 1 + s) * 2 ^ (d - l).toNat ∧ (2 * a + 1 + s) * 2 ^ (d - l).toNat ≤ 2 * 2 ^ d.toNat := by
  obtain ⟨h0, h1, h2, h3⟩ := hf
  have e := powsplit l.toNat d.toNat (by omega)
  rw [show d.toNat - l.toNat = (d - l).toNat by omega] at e
  have p : (0 : Int) < 2 ^ (d - l).toNat := Int.pow_pos (by decide)
  generalize (2 : Int) ^ (d - l).toNat = P at *
  generalize (2 : Int) ^ l.toNat = Q at *
  rw [e]
  have a1 : (2 * a + 1 + s) * P ≤ (2 * Q) * P := Int.mul_le_mul_of_nonneg_right (by omega) (by omega)
  have a0 : 0 ≤ (2 * a + 1 + s) * P := Int.mul_nonneg (by omega) (by omega)
  rw [Int.mul_assoc] at a1
  exact ⟨a0, a1⟩
theorem endv_bound (l a s d : Int) (hf : Fit l a) (hs : -1 ≤ s ∧ s ≤ 1) (hl : l ≤ d) (d8 : d ≤ 8) : -256 ≤ endv d l a s ∧ endv d l a s ≤ 256 := by
  have := endv_nn l a s d hf hs hl d8
  have p := pow_256 d.toNat (by omega)
  unfold endv
  omega
section
variable (lv at_ sg : List Int) (d : Int)
theorem eL_ok (h : EOk lv at_ sg d) : eL lv at_ sg d = (List.range lv.length).map (eRow lv at_ sg d) ∧ eE lv at_ sg d = 0 ∧ (eL lv at_ sg d).length = lv.length := by
  unfold eL eE
  simp only [if_pos h]
  exact ⟨trivial, trivial, by simp⟩
theorem eL_rd (h : EOk lv at_ sg d) (i : Nat) (hi : i < lv.length) : rd (eL lv at_ sg d) (i : Int) = endv d (rd lv (i : Nat)) (rd at_ (i : Nat)) (rd sg (i : Nat)) := by
  rw [rd_nat _ _ (by rw [(eL_ok lv at_ sg d h).2.2]; exact hi)]
  simp only [(eL_ok lv at_ sg d h).1, List.getElem_map, List.getElem_range]
  rfl
end
end Go.Proofs.Ytlidbaejhmamjaa.LA

namespace Go.Proofs.Ytlidbaejhmamjaa.LA
open Go.RowKit Go.Proofs.YtlidbaejhmamjaaW.PrintWords Go.Proofs.YtlidbaejhmamjaaW.PrintLast Go.Proofs.YtlidbaejhmamjaaW.PrintMore Go.Proofs.Ytlidbaejhmamjaa.PB
set_option linter.unusedVariables false
set_option linter.unusedSimpArgs false
/-- A point of the cube. -/
def Cube (es : List Int) (d : Int) : Prop := ∀ i : Nat, i < es.length → -2 ^ d.toNat ≤ rd es (i : Nat) ∧ rd es (i : Nat) ≤ 2 ^ d.toNat
theorem whole_rd (k : Int) (h0 : 0 ≤ k) (h1 : k ≤ 256) (i : Nat) (hi : (i : Int) < k) : rd (wholeL k) (i : Int) = 0 := by
  unfold wholeL
  rw [if_pos (And.intro h0 h1), rd_nat _ _ (by simp; omega)]
  simp
theorem cube_win (k : Int) (es : List Int) (d : Int) (h0 : 0 ≤ k) (h1 : k ≤ 256) (he : (es.length : Int) = k) (d0 : 0 ≤ d) (d1 : d ≤ 40) (hc : Cube es d) : AC.Win (wholeL k) (wholeL k) es d := by
  obtain ⟨_, w1, w2⟩ := whole_reg k h0 h1
  refine ⟨w1, by omega, d0, by omega, fun i hi => ?_⟩
  rw [whole_rd k h0 h1 i (by omega)]
  obtain ⟨c0, c1⟩ := hc i (by omega)
  unfold AC.InP
  have e := powsplit d.toNat 62 (by omega)
  have p : (0 : Int) < 2 ^ (62 - d.toNat) := Int.pow_pos (by decide)
  rw [show (0 : Int).toNat = 0 from rfl, Int.pow_zero, Nat.sub_zero, e]
  generalize (2 : Int) ^ (62 - d.toNat) = P at *
  generalize (2 : Int) ^ d.toNat = Q at *
  have a1 := Int.mul_le_mul_of_nonneg_right c0 (Int.le_of_lt p)
  have a2 := Int.mul_le_mul_of_nonneg_right c1 (Int.le_of_lt p)
  rw [Int.neg_mul] at a1
  constructor <;> omega
/-- One symbol: its part and the two halves of it. -/
theorem in_halves (d x l a : Int) (d0 : 0 ≤ d) (d1 : d ≤ 40) (hf : Fit l a) (h8 : l ≠ 8) :
    (AC.InP d x l a ↔ AC.InP d x (l + 1) (2 * a) ∨ AC.InP d x (l + 1) (2 * a + 1)) ∧
    ((AC.InP d x (l + 1) (2 * a) ∧ AC.InP d x (l + 1) (2 * a + 1)) ↔ AC.InP d x l a ∧ endv 8 l a 0 * 2 ^ d.toNat = x * 2 ^ 8) := by
  obtain ⟨h0, h1, h2, h3⟩ := hf
  obtain ⟨L, hL⟩ : ∃ L : Nat, l = L := ⟨l.toNat, by omega⟩
  obtain ⟨D, hD⟩ : ∃ D : Nat, d = D := ⟨d.toNat, by omega⟩
  have hL8 : L ≤ 7 := by omega
  have hD4 : D ≤ 40 := by omega
  have t1 : l.toNat = L := by omega
  have t2 : d.toNat = D := by omega
  have t3 : (l + 1).toNat = L + 1 := by omega
  have t4 : (8 - l).toNat = 8 - L := by omega
  unfold AC.InP endv
  rw [t1, t2, t3, t4]
  clear t1 t2 t3 t4 h0 h1 h2 h3 h8 hL hD d0 d1
  have e1 : (2 : Int) ^ (62 - L) = 2 * 2 ^ (62 - (L + 1)) := by
    rw [show 62 - L = (62 - (L + 1)) + 1 by omega, Int.pow_succ, Int.mul_comm]
  have e2 : (2 : Int) ^ (L + 1) = 2 * 2 ^ L := by rw [Int.pow_succ, Int.mul_comm]
  have p1 : (0 : Int) < 2 ^ (62 - (L + 1)) := Int.pow_pos (by decide)
  have pL : (0 : Int) < 2 ^ L := Int.pow_pos (by decide)
  -- the cut: X = M in parts of 2^-62
  have c1 : ((2 * a + 1 + 0) * 2 ^ (8 - L) - 2 ^ (8 : Int).toNat) * 2 ^ D = x * 2 ^ 8 ↔ x * 2 ^ (62 - D) = (4 * a + 2 - 2 * 2 ^ L) * 2 ^ (62 - (L + 1)) := by
    have f1 : (4 * a + 2 - 2 * 2 ^ L) * (2 : Int) ^ (62 - (L + 1)) = ((2 * a + 1 + 0) * 2 ^ (8 - L) - 2 ^ 8) * 2 ^ 54 := by
      have g1 : (2 : Int) ^ (62 - (L + 1)) = 2 ^ (7 - L) * 2 ^ 54 := by rw [← Int.pow_add]; congr 1; omega
      have g2 : (2 : Int) ^ (8 - L) = 2 * 2 ^ (7 - L) := by rw [show 8 - L = (7 - L) + 1 by omega, Int.pow_succ, Int.mul_comm]
      have g3 : (2 : Int) ^ 8 = 2 * (2 ^ L * 2 ^ (7 - L)) := by
        rw [← Int.pow_add, show L + (7 - L) = 7 by omega]; decide
      rw [g1, g2, g3, ← Int.mul_assoc]
      congr 1
      generalize (2 : Int) ^ (7 - L) = P
      generalize (2 : Int) ^ L = Q
      rw [Int.sub_mul, Int.add_zero, Int.mul_assoc 2 Q P, Int.add_mul, Int.mul_assoc 4 a P]
      rw [Int.add_mul, Int.mul_assoc 2 a (2 * P), Int.mul_left_comm a 2 P, Int.one_mul]
      omega
    rw [f1, show (8 : Int).toNat = 8 from rfl]
    generalize (2 * a + 1 + 0) * (2 : Int) ^ (8 - L) - 2 ^ 8 = Y
    have g1 : (2 : Int) ^ 54 = 2 ^ D * 2 ^ (54 - D) := by rw [← Int.pow_add]; congr 1; omega
    have g2 : (2 : Int) ^ (62 - D) = 2 ^ 8 * 2 ^ (54 - D) := by rw [← Int.pow_add]; congr 1; omega
    have p5 : (0 : Int) < 2 ^ (54 - D) := Int.pow_pos (by decide)
    rw [g1, g2, ← Int.mul_assoc, ← Int.mul_assoc]
    generalize Y * (2 : Int) ^ D = A
    generalize x * (2 : Int) ^ 8 = B
    generalize (2 : Int) ^ (54 - D) = P at *
    constructor
    · intro h; rw [h]
    · intro h; exact (Int.eq_of_mul_eq_mul_right (by omega) h).symm
  rw [c1, e1, e2]
  generalize x * (2 : Int) ^ (62 - D) = X
  generalize (2 : Int) ^ (62 - (L + 1)) = P at *
  generalize (2 : Int) ^ L = Q at *
  have m1 : (2 * a - Q) * (2 * P) = (2 * (2 * a) - 2 * Q) * P := by rw [← Int.mul_assoc]; congr 1; omega
  have m2 : (2 * a + 2 - Q) * (2 * P) = (2 * (2 * a + 1) + 2 - 2 * Q) * P := by rw [← Int.mul_assoc]; congr 1; omega
  have m3 : (2 * (2 * a) + 2 - 2 * Q) * P = (4 * a + 2 - 2 * Q) * P := by congr 1; omega
  have m4 : (2 * (2 * a + 1) - 2 * Q) * P = (4 * a + 2 - 2 * Q) * P := by congr 1; omega
  have o1 : (2 * (2 * a) - 2 * Q) * P ≤ (4 * a + 2 - 2 * Q) * P := Int.mul_le_mul_of_nonneg_right (by omega) (by omega)
  have o2 : (4 * a + 2 - 2 * Q) * P ≤ (2 * (2 * a + 1) + 2 - 2 * Q) * P := Int.mul_le_mul_of_nonneg_right (by omega) (by omega)
  rw [m1, m2, m3, m4]
  generalize (2 * (2 * a) - 2 * Q) * P = A at *
  generalize (4 * a + 2 - 2 * Q) * P = M at *
  generalize (2 * (2 * a + 1) + 2 - 2 * Q) * P = B at *
  constructor
  · constructor
    · intro h; omega
    · intro h; omega
  · constructor
    · intro h; omega
    · intro h; omega
theorem win_set (lv at_ es : List Int) (d : Int) (i : Nat) (hi : i < lv.length) (hr : Reg lv at_) (b : Int) (hb : Reg (lv.set i (rd lv (i : Nat) + 1)) (at_.set i b)) :
    AC.Win (lv.set i (rd lv (i : Nat) + 1)) (at_.set i b) es d ↔ (es.length = lv.length ∧ 0 ≤ d ∧ d ≤ 62 ∧ ∀ j : Nat, j < lv.length → j ≠ i → AC.InP d (rd es (j : Nat)) (rd lv (j : Nat)) (rd at_ (j : Nat))) ∧ AC.InP d (rd es (i : Nat)) (rd lv (i : Nat) + 1) b := by
  unfold AC.Win
  have hia : i < at_.length := by have := hr.2.1; omega
  constructor
  · rintro ⟨h1, h2, h3, h4, h5⟩
    rw [List.length_set] at h2 h5
    refine ⟨⟨h2, h3, h4, fun j hj hne => ?_⟩, ?_⟩
    · have := h5 j hj
      rw [rd_set_other _ _ _ _ (Ne.symm hne), rd_set_other _ _ _ _ (Ne.symm hne)] at this
      exact this
    · have := h5 i hi
      rw [rd_set_same _ _ _ hi, rd_set_same _ _ _ hia] at this
      exact this
  · rintro ⟨⟨h2, h3, h4, h5⟩, h6⟩
    rw [List.length_set]
    refine ⟨hb, h2, h3, h4, fun j hj => ?_⟩
    by_cases hij : i = j
    · subst hij
      rw [rd_set_same _ _ _ hi, rd_set_same _ _ _ hia]
      exact h6
    · rw [rd_set_other _ _ _ _ hij, rd_set_other _ _ _ _ hij]
      exact h5 j hj (Ne.symm hij)
theorem win_split (lv at_ es : List Int) (d : Int) (i : Nat) (hi : i < lv.length) (hr : Reg lv at_) :
    AC.Win lv at_ es d ↔ (es.length = lv.length ∧ 0 ≤ d ∧ d ≤ 62 ∧ ∀ j : Nat, j < lv.length → j ≠ i → AC.InP d (rd es (j : Nat)) (rd lv (j : Nat)) (rd at_ (j : Nat))) ∧ AC.InP d (rd es (i : Nat)) (rd lv (i : Nat)) (rd at_ (i : Nat)) := by
  unfold AC.Win
  constructor
  · rintro ⟨h1, h2, h3, h4, h5⟩
    exact ⟨⟨h2, h3, h4, fun j hj _ => h5 j hj⟩, h5 i hi⟩
  · rintro ⟨⟨h2, h3, h4, h5⟩, h6⟩
    refine ⟨hr, h2, h3, h4, fun j hj => ?_⟩
    by_cases hij : j = i
    · subst hij; exact h6
    · exact h5 j hj hij
/-- The zeros that the law hands to Ends. -/
theorem zeros_eok (lv at_ : List Int) (hr : Reg lv at_) : EOk lv at_ (List.replicate lv.length 0) 8 := by
  refine ⟨hr, by simp, fun i hi => ?_, by decide, by decide, fun i hi => (hr.2.2 i hi).2.1⟩
  simp at hi
  rw [rd_nat _ _ (by simpa using hi)]
  simp
theorem cover_law (lv at_ es : List Int) (d s : Int) (d0 : 0 ≤ d) (d1 : d ≤ 40) (h : HOk lv at_ s) :
    (AC.Win lv at_ es d ↔ AC.Win (hL lv at_ s) (hA lv at_ s) es d ∨ AC.Win (hL lv at_ s) (hB lv at_ s) es d) ∧
    ((AC.Win (hL lv at_ s) (hA lv at_ s) es d ∧ AC.Win (hL lv at_ s) (hB lv at_ s) es d) ↔ AC.Win lv at_ es d ∧ rd (eL lv at_ (List.replicate lv.length 0) 8) s * 2 ^ d.toNat = rd es s * 2 ^ 8) := by
  have hra := reg_set h 0 (.inl rfl)
  have hrb := reg_set h 1 (.inr rfl)
  rw [Int.add_zero] at hra
  have hok := h
  obtain ⟨hr, s0, s1, s8⟩ := h
  obtain ⟨i, rfl⟩ : ∃ i : Nat, s = i := ⟨s.toNat, by omega⟩
  have hi : i < lv.length := by omega
  unfold hL hA hB
  simp only [if_pos hok]
  rw [Int.toNat_natCast] at hra hrb ⊢
  rw [win_set lv at_ es d i hi hr _ hra, win_set lv at_ es d i hi hr _ hrb, win_split lv at_ es d i hi hr, eL_rd lv at_ _ 8 (zeros_eok lv at_ hr) i hi]
  have hz : rd (List.replicate lv.length 0) (i : Int) = 0 := by rw [rd_nat _ _ (by simpa using hi)]; simp
  rw [hz]
  obtain ⟨k1, k2⟩ := in_halves d (rd es (i : Nat)) (rd lv (i : Nat)) (rd at_ (i : Nat)) d0 d1 (hr.2.2 i hi) s8
  generalize (es.length = lv.length ∧ 0 ≤ d ∧ d ≤ 62 ∧ ∀ j : Nat, j < lv.length → j ≠ i → AC.InP d (rd es (j : Nat)) (rd lv (j : Nat)) (rd at_ (j : Nat))) = Q
  constructor
  · rw [k1]
    constructor
    · rintro ⟨q, h1 | h2⟩
      · exact .inl ⟨q, h1⟩
      · exact .inr ⟨q, h2⟩
    · rintro (⟨q, h1⟩ | ⟨q, h2⟩)
      · exact ⟨q, .inl h1⟩
      · exact ⟨q, .inr h2⟩
  · constructor
    · rintro ⟨⟨q, h1⟩, ⟨_, h2⟩⟩
      have := k2.mp ⟨h1, h2⟩
      exact ⟨⟨q, this.1⟩, this.2⟩
    · rintro ⟨⟨q, h1⟩, h2⟩
      have := k2.mpr ⟨h1, h2⟩
      exact ⟨⟨q, this.1⟩, ⟨q, this.2⟩⟩
theorem sum_set (lv : List Int) (i : Nat) (v : Int) (h : i < lv.length) : (lv.set i v).sum = lv.sum + (v - rd lv (i : Nat)) := by
  rw [rd_nat _ _ h]
  induction lv generalizing i with
  | nil => simp at h
  | cons x xs ih =>
    cases i with
    | zero => simp; omega
    | succ i =>
      have := ih i (by simpa using h)
      simp at this ⊢
      omega
theorem way_halve (lv at_ : List Int) (s : Int) (h : HOk lv at_ s) (x : List Int) (hx : x = hA lv at_ s ∨ x = hB lv at_ s) : wayN (hL lv at_ s) x = lv.sum + 1 ∧ wayE (hL lv at_ s) x = 0 ∧ (hL lv at_ s).sum = lv.sum + 1 := by
  obtain ⟨e0, e1, e2, e3⟩ := halve_ok h
  have hs : (hL lv at_ s).sum = lv.sum + 1 := by
    unfold hL
    rw [if_pos h]
    obtain ⟨hr, s0, s1, s8⟩ := h
    obtain ⟨i, rfl⟩ : ∃ i : Nat, s = i := ⟨s.toNat, by omega⟩
    rw [Int.toNat_natCast, sum_set _ _ _ (by omega)]
    omega
  unfold wayN wayE
  rcases hx with rfl | rfl
  · rw [if_pos e1, if_pos e1]; exact ⟨hs, rfl, hs⟩
  · rw [if_pos e2, if_pos e2]; exact ⟨hs, rfl, hs⟩
theorem whole_sum (k : Int) : (wholeL k).sum = 0 := by
  unfold wholeL
  split
  · generalize k.toNat = n
    induction n with
    | zero => rfl
    | succ n ih => rw [List.replicate_succ, List.sum_cons, ih]; rfl
  · rfl
end Go.Proofs.Ytlidbaejhmamjaa.LA

namespace Go.Proofs.Ytlidbaejhmamjaa.LW
open Go.RowKit Go.Proofs.YtlidbaejhmamjaaW.PrintWords Go.Proofs.YtlidbaejhmamjaaW.PrintLast Go.Proofs.YtlidbaejhmamjaaW.PrintMore Go.Proofs.Ytlidbaejhmamjaa.PB Go.Proofs.Ytlidbaejhmamjaa.LA Go.Proofs.Ytlidbaejhmamjaa.AC
set_option linter.unusedVariables false
set_option linter.unusedSimpArgs false
theorem shifts (d pd : Int) (h0 : 0 ≤ d) (h1 : d ≤ 40) (hp : pd = 2 ^ d.toNat) :
    IntKind.i64.wrap (1 * 2 ^ min d.toNat 64) = pd ∧ IntKind.i64.wrap (2 ^ min d.toNat 64) = pd ∧ wrap64 (1 * 2 ^ min d.toNat 64) = pd ∧ wrap64 (2 ^ min d.toNat 64) = pd ∧
    IntKind.i64.wrap (-1 * 2 ^ min d.toNat 64) = -pd ∧ IntKind.i64.wrap (-2 ^ min d.toNat 64) = -pd ∧ wrap64 (-1 * 2 ^ min d.toNat 64) = -pd ∧ wrap64 (-2 ^ min d.toNat 64) = -pd := by
  rw [Nat.min_eq_left (by omega)]
  have hb : 0 < (2 : Int) ^ d.toNat ∧ (2 : Int) ^ d.toNat ≤ 2 ^ 40 := ⟨Int.pow_pos (by decide), pow_le' (by omega)⟩
  rw [show (2 : Int) ^ 40 = 1099511627776 by decide] at hb
  rw [← hp] at hb ⊢
  have e1 : wrap64 pd = pd := w64 _ (by omega) (by omega)
  have e2 : wrap64 (-pd) = -pd := w64 _ (by omega) (by omega)
  simp only [i64_w, Int.one_mul, Int.neg_mul, e1, e2, and_self]
theorem pow40 (d : Int) (h0 : 0 ≤ d) (h1 : d ≤ 40) : 0 < (2 : Int) ^ d.toNat ∧ (2 : Int) ^ d.toNat ≤ 1099511627776 := by
  have hb : (2 : Int) ^ d.toNat ≤ 2 ^ 40 := pow_le' (by omega)
  rw [show (2 : Int) ^ 40 = 1099511627776 by decide] at hb
  exact ⟨Int.pow_pos (by decide), hb⟩
theorem shl_cut (d pd z cl : Int) (h0 : 0 ≤ d) (h1 : d ≤ 40) (hp : pd = 2 ^ d.toNat) (z0 : -256 ≤ z) (z1 : z ≤ 256) (hc : cl = z * pd) : IntKind.i64.wrap (z * 2 ^ min d.toNat 64) = cl ∧ wrap64 (z * 2 ^ min d.toNat 64) = cl := by
  have hb := pow40 d h0 h1
  rw [Nat.min_eq_left (by omega)]
  rw [← hp] at hb ⊢
  have a1 : z * pd ≤ 256 * pd := Int.mul_le_mul_of_nonneg_right z1 (by omega)
  have a2 : -256 * pd ≤ z * pd := Int.mul_le_mul_of_nonneg_right z0 (by omega)
  rw [i64_w, ← hc, w64 cl (by omega) (by omega)]
  exact ⟨rfl, rfl⟩
theorem shl_256 (z cr : Int) (z0 : -1099511627776 ≤ z) (z1 : z ≤ 1099511627776) (hc : cr = z * 256) : IntKind.i64.wrap (z * 256) = cr ∧ wrap64 (z * 256) = cr ∧ IntKind.i64.wrap (z * 2 ^ 8) = cr ∧ wrap64 (z * 2 ^ 8) = cr := by
  have e : (2 : Int) ^ 8 = 256 := by decide
  rw [e, i64_w, ← hc, w64 cr (by omega) (by omega)]
  exact ⟨rfl, rfl, rfl, rfl⟩
theorem cover_bool {W A B C : Prop} [Decidable W] [Decidable A] [Decidable B] {u1 u2 u3 : Bool} (h1 : decide W = u1) (h2 : decide A = u2) (h3 : decide B = u3) (q1 : W ↔ A ∨ B) (q2 : (A ∧ B) ↔ W ∧ C) :
    (u1 = true ∧ u2 = true ∧ u3 = true ∧ C) ∨ (u1 = true ∧ u2 = true ∧ u3 = false ∧ ¬ C) ∨ (u1 = true ∧ u2 = false ∧ u3 = true ∧ ¬ C) ∨ (u1 = false ∧ u2 = false ∧ u3 = false) := by
  by_cases a : A
  · by_cases b : B
    · have w := q1.mpr (.inl a)
      rw [decide_eq_true w] at h1; rw [decide_eq_true a] at h2; rw [decide_eq_true b] at h3
      exact .inl ⟨h1.symm, h2.symm, h3.symm, (q2.mp ⟨a, b⟩).2⟩
    · have w := q1.mpr (.inl a)
      rw [decide_eq_true w] at h1; rw [decide_eq_true a] at h2; rw [decide_eq_false b] at h3
      exact .inr (.inl ⟨h1.symm, h2.symm, h3.symm, fun c => b (q2.mpr ⟨w, c⟩).2⟩)
  · by_cases b : B
    · have w := q1.mpr (.inr b)
      rw [decide_eq_true w] at h1; rw [decide_eq_false a] at h2; rw [decide_eq_true b] at h3
      exact .inr (.inr (.inl ⟨h1.symm, h2.symm, h3.symm, fun c => a (q2.mpr ⟨w, c⟩).1⟩))
    · have w : ¬ W := fun w => (q1.mp w).elim a b
      rw [decide_eq_false w] at h1; rw [decide_eq_false a] at h2; rw [decide_eq_false b] at h3
      exact .inr (.inr (.inr ⟨h1.symm, h2.symm, h3.symm⟩))
def covers.T24 : Bool × List (List Nat × List Nat) := (true, [([], []), ([], []), ([1, 1], [1]), ([0, 2], [0, 2]), ([3], [3]), ([4], [4]), ([4], [4]), ([5, 3, 0, 1, 2, 3, 4, 5], [5]), ([6, 7, 0, 1, 2, 3, 4, 5, 6, 7], [6])])
def covers.B24 : List Nat := [0, 0, 2, 7, 15, 31, 31, 63, 255]
theorem covers.tab24 : rtab .any (opsOf Try.f6 24) = covers.T24 := by kernel_rfl
theorem covers.bits24 : waitsOk covers.T24.2 covers.B24 = true := by kernel_rfl
set_option maxRecDepth 100000 in
set_option maxHeartbeats 8000000 in
theorem covers_calls (a : Int) (A1 : Option Addr) (c1 : Nat) (l1 : List S52) (A2 : Option Addr) (c2 : Nat) (es : List Int) (d : Int) (w : World) (hr1 : Kd.C k52 w A1 l1.length l1) (hc1 : l1.length ≤ c1) (r2 : Rd w A2 c2 es) (hi : I64 es) :
    Calls Try.prog 6 #[.int .i64 a, .slice A1 l1.length c1, .slice A2 es.length c2, .int .i64 d] w fun e w' => e = .returned (.bool true) ∧ Below w.heap.size w w' := by
  have hu24 := Try.underlying24
  have hu52 := Try.underlying52
  have HB := Aside0.mk (Below.refl w.heap.size w)
  have HT := Aside0.mk hr1
  have R_e := Aside0.mk r2
  have HI := Aside0.mk hi
  clear hr1 r2 hi
  by_cases g1 : a < 1
  · have g1b : decide (a < 1) = true := decide_eq_true g1
    clear g1
    go_enter Try.func6, Try.ntmps6
    go_wp2_with fail
    refine (awake_calls _).mono ?_
    rintro e_ w_ ⟨rfl, hb⟩
    go_wp2_with fail
    go_ret
    exact ⟨by first | done | rfl, below_step HB.out hb⟩
  · have g1b : decide (a < 1) = false := decide_eq_false g1
    have G1 := Aside0.mk g1
    clear g1
    by_cases g2 : 40 < a
    · have g2b : decide (40 < a) = true := decide_eq_true g2
      clear g2
      go_enter Try.func6, Try.ntmps6
      go_wp2_with fail
      refine (awake_calls _).mono ?_
      rintro e_ w_ ⟨rfl, hb⟩
      go_wp2_with fail
      go_ret
      exact ⟨by first | done | rfl, below_step HB.out hb⟩
    · have g2b : decide (40 < a) = false := decide_eq_false g2
      have G2 := Aside0.mk g2
      clear g2
      by_cases g3 : (es.length : Int) ≠ a
      · have g3b : ((es.length : Int) != a) = true := by rw [bne_iff_ne]; exact g3
        clear g3
        go_enter Try.func6, Try.ntmps6
        go_wp2_with fail
        refine (awake_calls _).mono ?_
        rintro e_ w_ ⟨rfl, hb⟩
        go_wp2_with fail
        go_ret
        exact ⟨by first | done | rfl, below_step HB.out hb⟩
      · have g3b : ((es.length : Int) != a) = false := by rw [bne_eq_false_iff_eq]; omega
        have G3 := Aside0.mk g3
        clear g3
        by_cases g4 : d < 0
        · have g4b : decide (d < 0) = true := decide_eq_true g4
          clear g4
          go_enter Try.func6, Try.ntmps6
          go_wp2_with fail
          refine (awake_calls _).mono ?_
          rintro e_ w_ ⟨rfl, hb⟩
          go_wp2_with fail
          go_ret
          exact ⟨by first | done | rfl, below_step HB.out hb⟩
        · have g4b : decide (d < 0) = false := decide_eq_false g4
          have G4 := Aside0.mk g4
          clear g4
          by_cases g5 : 40 < d
          · have g5b : decide (40 < d) = true := decide_eq_true g5
            clear g5
            go_enter Try.func6, Try.ntmps6
            go_wp2_with fail
            refine (awake_calls _).mono ?_
            rintro e_ w_ ⟨rfl, hb⟩
            go_wp2_with fail
            go_ret
            exact ⟨by first | done | rfl, below_step HB.out hb⟩
          · have g5b : decide (40 < d) = false := decide_eq_false g5
            have G5 := Aside0.mk g5
            clear g5
            have HA := Aside0.mk (show 1 ≤ a ∧ a ≤ 40 ∧ (es.length : Int) = a ∧ 0 ≤ d ∧ d ≤ 40 by have := G1.out; have := G2.out; have := G3.out; have := G4.out; have := G5.out; omega)
            have hd0 : (0 ≤ d) = True := eq_true (by have := HA.out; omega)
            clear G1 G2 G3 G4 G5
            obtain ⟨pd, hpd⟩ : ∃ p : Int, p = 2 ^ d.toNat := ⟨_, rfl⟩
            have HP := Aside0.mk hpd
            obtain ⟨s1, s2, s3, s4, s5, s6, s7, s8⟩ := shifts d pd HA.out.2.2.2.1 HA.out.2.2.2.2 hpd
            clear hpd
            go_enter Try.func6, Try.ntmps6
            go_wp2_with fail
            go_loopg [9] a.toNat (fun m v9 wr => ∃ x : Int, v9 = .int .i64 x ∧ Aside0 (0 ≤ x ∧ x + m = a) ∧ Aside0 (∀ j : Nat, (j : Int) < x → -pd ≤ rd es (j : Nat) ∧ rd es (j : Nat) ≤ pd) ∧ Aside0 (Rd wr A2 c2 es) ∧ Aside0 (Below w.heap.size w wr))
            case atStart => exact ⟨0, rfl, ⟨by have := HA.out; omega⟩, ⟨fun j hj => by omega⟩, R_e, HB⟩
            case round =>
              clear R_e HB
              obtain ⟨x, rfl, hm, hall, R_e, HB⟩ := hrel
              by_cases hx : x < a
              · have hxb : decide (x < a) = true := decide_eq_true hx
                obtain ⟨j, rfl⟩ : ∃ j : Nat, x = j := ⟨x.toNat, by have := hm.out; omega⟩
                have hj : j < es.length := by have := HA.out; omega
                have hj0 := eq_true hj
                have hj1 := eq_true (show (j : Int) < (es.length : Int) by omega)
                have hj2 := eq_true (show (0 : Int) ≤ (j : Int) by omega)
                obtain ⟨ae, e52, hz⟩ := Kd.at_int R_e.out.row (j : Int) (by omega) (by omega)
                cases e52
                rw [Int.toNat_natCast] at hz
                have HQ := Aside0.mk (show (-pd ≤ rd es (j : Int) ∧ rd es (j : Int) ≤ pd) → ∀ i : Nat, (i : Int) < (j : Int) + 1 → -pd ≤ rd es (i : Nat) ∧ rd es (i : Nat) ≤ pd from fun h i hi => by
                    by_cases hij : i = j
                    · subst hij; exact h
                    · exact hall.out i (by omega))
                have HJ := Aside0.mk hx
                clear hx hj
                generalize rd es (j : Int) = z at *
                by_cases z0 : z < -pd
                · have z0b : decide (z < -pd) = true := decide_eq_true z0
                  clear z0
                  go_wp2_with fail
                  repeat (go_quiet (fail); try go_wp2_with fail)
                  refine (awake_calls _).mono ?_
                  rintro e_ w_ ⟨rfl, hb⟩
                  go_wp2_with fail
                  go_ret
                  exact ⟨by first | done | rfl, below_step (by first | exact HB.out | exact below_drewN HB.out _) hb⟩
                · have z0b : decide (z < -pd) = false := decide_eq_false z0
                  by_cases z1 : pd < z
                  · have z1b : decide (pd < z) = true := decide_eq_true z1
                    clear z0 z1
                    go_wp2_with fail
                    repeat (go_quiet (fail); try go_wp2_with fail)
                    refine (awake_calls _).mono ?_
                    rintro e_ w_ ⟨rfl, hb⟩
                    go_wp2_with fail
                    go_ret
                    exact ⟨by first | done | rfl, below_step (by first | exact HB.out | exact below_drewN HB.out _) hb⟩
                  · have z1b : decide (pd < z) = false := decide_eq_false z1
                    have HZ := Aside0.mk (show -pd ≤ z ∧ z ≤ pd by omega)
                    clear z0 z1
                    go_wp2_with fail
                    repeat (go_quiet (fail); try go_wp2_with fail)
                    go_roundg (gk - 1)
                    case measure => have := hm.out; have := HJ.out; omega
                    case rel => exact ⟨(j : Int) + 1, by rw [show wrap64 ((j : Int) + 1) = (j : Int) + 1 from w64 _ (by omega) (by have := HJ.out; have := HA.out; omega)], ⟨by have := hm.out; have := HJ.out; omega⟩, ⟨HQ.out HZ.out⟩, ⟨by first | exact R_e.out | exact R_e.out.step (below_drewN (Below.refl _ _) _)⟩, ⟨by first | exact HB.out | exact below_drewN HB.out _⟩⟩
              · have hxb : decide (x < a) = false := decide_eq_false hx
                have HC := Aside0.mk (show Cube es d from fun i hi => by rw [← HP.out]; exact hall.out i (by have := hm.out; have := HA.out; omega))
                clear hx hm hall s1 s2 s3 s4 s5 s6 s7 s8
                obtain ⟨k1, h1⟩ := (Whole_ev a).get
                obtain ⟨e0, w1r, w2r⟩ := whole_reg a (by have := HA.out; omega) (by have := HA.out; omega)
                have w3r := whole_sum a
                have w4r := cube_win a es d (by have := HA.out; omega) (by have := HA.out; omega) HA.out.2.2.1 HA.out.2.2.2.1 HA.out.2.2.2.2 HC.out
                rw [e0] at h1
                generalize wholeL a = p at *
                have F1 := Aside0.mk h1
                have HR := Aside0.mk (And.intro w1r (And.intro w2r w3r))
                have HW := Aside0.mk w4r
                clear h1 e0 w1r w2r w3r w4r
                go_wp2_with fail
                refine (split_Whole.calls k1 a p p 0 wr F1.out).mono ?_
                rintro e_ w1 ⟨v0, v1, rfl, h0, h1, hb⟩
                obtain ⟨A_p0, c_p0, rfl, r_p0⟩ := Rd.of_R h0
                obtain ⟨A_p1, c_p1, rfl, r_p1⟩ := Rd.of_R h1
                replace R_e := Aside0.mk (R_e.out.step hb); replace HB := Aside0.mk (below_step HB.out hb)
                have R_p0 := Aside0.mk r_p0
                have R_p1 := Aside0.mk r_p1
                clear hb r_p0 h0 r_p1 h1
                go_wp2_with (first
    | ((with_reducible refine gate_dst (N := 10) rfl ?_); refine box_event rfl (N := 10) rfl (cs := #[.slice none 0 0, .slice none 0 0]) (t := 24) ?hr ?_; (case hr => first | (go_simp; done) | (go_simp; rfl)); intro g_r hg_ w2 hw_ hb_; have L_r := Aside0.mk (show w.heap.size ≤ g_r by have := HB.out.size; omega); replace R_e := Aside0.mk (R_e.out.step hb_); replace R_p0 := Aside0.mk (R_p0.out.step hb_); replace R_p1 := Aside0.mk (R_p1.out.step hb_); replace HB := Aside0.mk (below_step HB.out hb_); have K_r := Aside0.mk (show Bx w2 g_r none 0 0 none 0 0 from hw_); clear hg_ hw_ hb_)
    | ((with_reducible refine gate_store (t := 24) (p := 10) rfl ?_); refine store_row_event rfl 24 rfl rfl g_r #[.slice A_p0 p.length c_p0, .slice A_p1 p.length c_p1] rfl rfl 24 _ K_r.out (info24.trans rfl) rfl (slices_one _ _ _ _ _ _) ?_; intro w3 hw_ hg_; replace R_e := Aside0.mk (R_e.out.put K_r.out hg_); replace R_p0 := Aside0.mk (R_p0.out.put K_r.out hg_); replace R_p1 := Aside0.mk (R_p1.out.put K_r.out hg_); replace HB := Aside0.mk (HB.out.grown hg_ HB.out.size (fun k_ hk_ => by cases hk_; exact L_r.out)); replace K_r := Aside0.mk (show Bx w3 g_r A_p0 p.length c_p0 A_p1 p.length c_p1 from hw_); clear hw_ hg_; have c_r_0 := K_r.out.c0; have c_r_1 := K_r.out.c1)
    | fail)
                refine (within_calls A_p0 c_p0 p A_p1 c_p1 p A2 c2 es d w3 R_p0.out.row R_p0.out.cap R_p1.out.row R_p1.out.cap R_e.out.row R_e.out.cap HI.out).mono ?_
                rw [decide_eq_true HW.out]
                rintro e_ w4 ⟨rfl, hb⟩
                clear c_r_0 c_r_1
                replace R_e := Aside0.mk (R_e.out.step hb); replace R_p0 := Aside0.mk (R_p0.out.step hb); replace R_p1 := Aside0.mk (R_p1.out.step hb); replace K_r := Aside0.mk (K_r.out.step hb); replace HB := Aside0.mk (below_step HB.out hb)
                clear hb
                go_wp2_with fail
                go_loopg [12, 13] l1.length (fun m v12 v13 wr => ∃ (x n : Int) (lv at_ : List Int) (A0 A1 : Option Addr) (c0 c1 : Nat), v12 = .int .i64 n ∧ v13 = .int .i64 x ∧ Aside0 (0 ≤ x ∧ x + m = l1.length) ∧ Aside0 (Reg lv at_ ∧ (lv.length : Int) = a ∧ lv.sum = n) ∧ Aside0 (Bx wr g_r A0 lv.length c0 A1 at_.length c1) ∧ Aside0 (Rd wr A0 c0 lv) ∧ Aside0 (Rd wr A1 c1 at_) ∧ Aside0 (Rd wr A2 c2 es) ∧ Aside0 (Below w.heap.size w wr))
                case atStart => exact ⟨0, 0, p, p, A_p0, A_p1, c_p0, c_p1, rfl, rfl, ⟨by omega⟩, ⟨HR.out⟩, K_r, R_p0, R_p1, R_e, HB⟩
                case round =>
                  clear K_r R_p0 R_p1 R_e HB
                  obtain ⟨x, n, lv, at_, A0, A1, c0, c1, rfl, rfl, hm, HG, K_r, R_0, R_1, R_e, HB⟩ := hrel
                  by_cases hx : x < (l1.length : Int)
                  · have hxb : decide (x < (l1.length : Int)) = true := decide_eq_true hx
                    by_cases hx4 : x < 40
                    · have hx4b : decide (x < 40) = true := decide_eq_true hx4
                      obtain ⟨j, rfl⟩ : ∃ j : Nat, x = j := ⟨x.toNat, by have := hm.out; omega⟩
                      have hj : j < l1.length := by omega
                      have hj0 := eq_true hj
                      have hj1 := eq_true hx
                      have hj2 := eq_true (show (0 : Int) ≤ (j : Int) by omega)
                      obtain ⟨at0, e44, hy0, hy1⟩ := at_T52 (Kd.C_below HT.out HB.out) (j : Int) (by omega) hx
                      have hyy : ∀ W : World, Below w.heap.size w W → W.cell? ⟨(at0.add (j * 2)).block, (at0.add (j * 2)).off + 1, none⟩ = some (.bool (rd_T52 l1 (j : Int)).f1) := by
                        intro W hW
                        obtain ⟨at1, e', hy0', hy1'⟩ := at_T52 (Kd.C_below HT.out hW) (j : Int) (by omega) hx
                        rw [e44] at e'
                        cases e'
                        rw [Int.toNat_natCast] at hy1'
                        exact hy1'
                      have HY := Aside0.mk hyy
                      clear hyy
                      cases e44
                      rw [Int.toNat_natCast] at hy0 hy1
                      have HJ := Aside0.mk (And.intro hx hx4)
                      clear hx hx4 hj
                      generalize (rd_T52 l1 (j : Int)).f0 = s at *
                      generalize (rd_T52 l1 (j : Int)).f1 = up at *
                      obtain ⟨k2, h2⟩ := (Halve_ev lv at_ s).get
                      by_cases hok : HOk lv at_ s
                      · obtain ⟨o0, o1, o2, o3⟩ := halve_ok hok
                        obtain ⟨y1, y2, y3⟩ := way_halve lv at_ s hok _ (.inl rfl)
                        obtain ⟨y4, y5, y6⟩ := way_halve lv at_ s hok _ (.inr rfl)
                        obtain ⟨q1, q2⟩ := cover_law lv at_ es d s HA.out.2.2.2.1 HA.out.2.2.2.2 hok
                        obtain ⟨k4, h4⟩ := (Way_ev (LA.hL lv at_ s) (LA.hA lv at_ s)).get
                        obtain ⟨k5, h5⟩ := (Way_ev (LA.hL lv at_ s) (LA.hB lv at_ s)).get
                        rw [y1, y2, HG.out.2.2] at h4
                        rw [y4, y5, HG.out.2.2] at h5
                        rw [HG.out.2.2] at y3
                        rw [o0] at h2
                        obtain ⟨hl, ha, hbb, e1, e2, e3⟩ : ∃ x y z : List Int, LA.hL lv at_ s = x ∧ LA.hA lv at_ s = y ∧ LA.hB lv at_ s = z := ⟨_, _, _, rfl, rfl, rfl⟩
                        rw [e1, e2, e3] at h2
                        rw [e1, e2] at h4 o1
                        rw [e1, e3] at h5 o2
                        rw [e1, e2, e3] at q1 q2
                        rw [e1] at o3 y3
                        clear e1 e2 e3 y1 y2 y4 y5 y6 o0
                        have hes := zeros_eok lv at_ HG.out.1
                        obtain ⟨k6, h6⟩ := (Ends_ev lv at_ (List.replicate lv.length 0) 8).get
                        obtain ⟨f0, f1, f2⟩ := eL_ok lv at_ _ 8 hes
                        clear f0
                        rw [f1] at h6
                        obtain ⟨j2, hs2, hj2l⟩ : ∃ i : Nat, s = i ∧ i < lv.length := ⟨s.toNat, by have := hok.2.1; omega, by have := hok.2.2.1; have := hok.2.1; omega⟩
                        have f3 := endv_bound _ _ _ 8 (hes.1.2.2 j2 hj2l) (hes.2.2.1 j2 (by rw [hes.2.1]; exact hj2l)) (hes.2.2.2.2.2 j2 hj2l) (by decide)
                        rw [← eL_rd lv at_ _ 8 hes j2 hj2l, ← hs2] at f3
                        generalize hel : eL lv at_ (List.replicate lv.length 0) 8 = el at *
                        have hzl : List.replicate a.toNat 0 = List.replicate lv.length (0 : Int) := by rw [show a.toNat = lv.length by have := HG.out.2.1; omega]
                        obtain ⟨zl, hzz⟩ : ∃ z, z = List.replicate lv.length (0 : Int) := ⟨_, rfl⟩
                        rw [← hzz] at h6 hzl
                        have HZL := Aside0.mk hzl
                        have F2 := Aside0.mk h2
                        have F4 := Aside0.mk h4
                        have F5 := Aside0.mk h5
                        have F6 := Aside0.mk h6
                        have HQ := Aside0.mk (And.intro q1 q2)
                        have HO := Aside0.mk (And.intro o1 (And.intro o2 (And.intro o3 y3)))
                        have HS := Aside0.mk (And.intro hs2 hj2l)
                        have HEL := Aside0.mk (And.intro f2 f3)
                        have HN1 := Aside0.mk (show wrap64 (n + 1) = n + 1 from w64 _ (by have b := sum_bound lv at_ HG.out.1 lv.length (Nat.le_refl _); rw [List.take_length, HG.out.2.2] at b; omega) (by have b := sum_bound lv at_ HG.out.1 lv.length (Nat.le_refl _); rw [List.take_length, HG.out.2.2] at b; have := HG.out.1.1; omega))
                        have hn1 := HN1.out
                        clear h2 h4 h5 h6 q1 q2 o1 o2 o3 y3 hs2 hj2l f1 f2 f3 hes hel hzl hzz hok
                        obtain ⟨u1, hu1⟩ : ∃ b, decide (AC.Win lv at_ es d) = b := ⟨_, rfl⟩
                        obtain ⟨u2, hu2⟩ : ∃ b, decide (AC.Win hl ha es d) = b := ⟨_, rfl⟩
                        obtain ⟨u3, hu3⟩ : ∃ b, decide (AC.Win hl hbb es d) = b := ⟨_, rfl⟩
                        have U1 := Aside0.mk hu1
                        have U2 := Aside0.mk hu2
                        have U3 := Aside0.mk hu3
                        clear hu1 hu2 hu3
                        have c_r_0 := K_r.out.c0
                        have c_r_1 := K_r.out.c1
                        go_wp2_with fail
                        refine (split_Halve.calls k2 A0 c0 lv A1 c1 at_ s hl ha hl hbb 0 wr R_0.out.row R_0.out.cap R_1.out.row R_1.out.cap F2.out).mono ?_
                        rintro e_ w5 ⟨v0, v1, v2, v3, rfl, h0, h1, h2, h3, hb⟩
                        clear c_r_0 c_r_1 hy0 hy1
                        obtain ⟨A_h0, c_h0, rfl, r_h0⟩ := Rd.of_R h0
                        obtain ⟨A_ha, c_ha, rfl, r_ha⟩ := Rd.of_R h1
                        obtain ⟨A_h1, c_h1, rfl, r_h1⟩ := Rd.of_R h2
                        obtain ⟨A_hb_, c_hb_, rfl, r_hb_⟩ := Rd.of_R h3
                        replace R_0 := Aside0.mk (R_0.out.step hb); replace R_1 := Aside0.mk (R_1.out.step hb); replace R_e := Aside0.mk (R_e.out.step hb); replace K_r := Aside0.mk (K_r.out.step hb); replace HB := Aside0.mk (below_step HB.out hb)
                        have R_h0 := Aside0.mk r_h0
                        have R_ha := Aside0.mk r_ha
                        have R_h1 := Aside0.mk r_h1
                        have R_hb_ := Aside0.mk r_hb_
                        clear hb r_h0 h0 r_ha h1 r_h1 h2 r_hb_ h3
                        go_wp2_with (first
    | ((with_reducible refine gate_dst (N := 15) rfl ?_); refine box_event rfl (N := 15) rfl (cs := #[.slice none 0 0, .slice none 0 0]) (t := 24) ?hr ?_; (case hr => first | (go_simp; done) | (go_simp; rfl)); intro g_a hg_ w6 hw_ hb_; have N_a_r := Aside0.mk (show g_r ≠ g_a by have := K_r.out.lt; omega); have L_a := Aside0.mk (show w.heap.size ≤ g_a by have := HB.out.size; omega); replace R_0 := Aside0.mk (R_0.out.step hb_); replace R_1 := Aside0.mk (R_1.out.step hb_); replace R_e := Aside0.mk (R_e.out.step hb_); replace R_h0 := Aside0.mk (R_h0.out.step hb_); replace R_ha := Aside0.mk (R_ha.out.step hb_); replace R_h1 := Aside0.mk (R_h1.out.step hb_); replace R_hb_ := Aside0.mk (R_hb_.out.step hb_); replace K_r := Aside0.mk (K_r.out.step hb_); replace HB := Aside0.mk (below_step HB.out hb_); have K_a := Aside0.mk (show Bx w6 g_a none 0 0 none 0 0 from hw_); clear hg_ hw_ hb_)
    | ((with_reducible refine gate_dst (N := 16) rfl ?_); refine box_event rfl (N := 16) rfl (cs := #[.slice none 0 0, .slice none 0 0]) (t := 24) ?hr ?_; (case hr => first | (go_simp; done) | (go_simp; rfl)); intro g_b hg_ w7 hw_ hb_; have N_b_r := Aside0.mk (show g_r ≠ g_b by have := K_r.out.lt; omega); have N_b_a := Aside0.mk (show g_a ≠ g_b by have := K_a.out.lt; omega); have L_b := Aside0.mk (show w.heap.size ≤ g_b by have := HB.out.size; omega); replace R_0 := Aside0.mk (R_0.out.step hb_); replace R_1 := Aside0.mk (R_1.out.step hb_); replace R_e := Aside0.mk (R_e.out.step hb_); replace R_h0 := Aside0.mk (R_h0.out.step hb_); replace R_ha := Aside0.mk (R_ha.out.step hb_); replace R_h1 := Aside0.mk (R_h1.out.step hb_); replace R_hb_ := Aside0.mk (R_hb_.out.step hb_); replace K_r := Aside0.mk (K_r.out.step hb_); replace K_a := Aside0.mk (K_a.out.step hb_); replace HB := Aside0.mk (below_step HB.out hb_); have K_b := Aside0.mk (show Bx w7 g_b none 0 0 none 0 0 from hw_); clear hg_ hw_ hb_)
    | ((with_reducible refine gate_store (t := 24) (p := 15) rfl ?_); refine store_row_event rfl 24 rfl rfl g_a #[.slice A_h0 hl.length c_h0, .slice A_ha ha.length c_ha] rfl rfl 24 _ K_a.out (info24.trans rfl) rfl (slices_one _ _ _ _ _ _) ?_; intro w8 hw_ hg_; replace R_0 := Aside0.mk (R_0.out.put K_a.out hg_); replace R_1 := Aside0.mk (R_1.out.put K_a.out hg_); replace R_e := Aside0.mk (R_e.out.put K_a.out hg_); replace R_h0 := Aside0.mk (R_h0.out.put K_a.out hg_); replace R_ha := Aside0.mk (R_ha.out.put K_a.out hg_); replace R_h1 := Aside0.mk (R_h1.out.put K_a.out hg_); replace R_hb_ := Aside0.mk (R_hb_.out.put K_a.out hg_); replace K_r := Aside0.mk (K_r.out.put hg_ N_a_r.out); replace K_b := Aside0.mk (K_b.out.put hg_ N_b_a.out.symm); replace HB := Aside0.mk (HB.out.grown hg_ HB.out.size (fun k_ hk_ => by cases hk_; exact L_a.out)); replace K_a := Aside0.mk (show Bx w8 g_a A_h0 hl.length c_h0 A_ha ha.length c_ha from hw_); clear hw_ hg_; have c_a_0 := K_a.out.c0; have c_a_1 := K_a.out.c1)
    | ((with_reducible refine gate_store (t := 24) (p := 16) rfl ?_); refine store_row_event rfl 24 rfl rfl g_b #[.slice A_h1 hl.length c_h1, .slice A_hb_ hbb.length c_hb_] rfl rfl 24 _ K_b.out (info24.trans rfl) rfl (slices_one _ _ _ _ _ _) ?_; intro w9 hw_ hg_; replace R_0 := Aside0.mk (R_0.out.put K_b.out hg_); replace R_1 := Aside0.mk (R_1.out.put K_b.out hg_); replace R_e := Aside0.mk (R_e.out.put K_b.out hg_); replace R_h0 := Aside0.mk (R_h0.out.put K_b.out hg_); replace R_ha := Aside0.mk (R_ha.out.put K_b.out hg_); replace R_h1 := Aside0.mk (R_h1.out.put K_b.out hg_); replace R_hb_ := Aside0.mk (R_hb_.out.put K_b.out hg_); replace K_r := Aside0.mk (K_r.out.put hg_ N_b_r.out); replace K_a := Aside0.mk (K_a.out.put hg_ N_b_a.out); replace HB := Aside0.mk (HB.out.grown hg_ HB.out.size (fun k_ hk_ => by cases hk_; exact L_b.out)); replace K_b := Aside0.mk (show Bx w9 g_b A_h1 hl.length c_h1 A_hb_ hbb.length c_hb_ from hw_); clear hw_ hg_; have c_b_0 := K_b.out.c0; have c_b_1 := K_b.out.c1; have c_r_0 := K_r.out.c0; have c_r_1 := K_r.out.c1)
    | fail)
                        refine (within_calls A0 c0 lv A1 c1 at_ A2 c2 es d w9 R_0.out.row R_0.out.cap R_1.out.row R_1.out.cap R_e.out.row R_e.out.cap HI.out).mono ?_
                        rw [U1.out]
                        rintro e_ w10 ⟨rfl, hb⟩
                        clear c_r_0 c_r_1 c_b_0 c_b_1
                        replace R_0 := Aside0.mk (R_0.out.step hb); replace R_1 := Aside0.mk (R_1.out.step hb); replace R_e := Aside0.mk (R_e.out.step hb); replace R_h0 := Aside0.mk (R_h0.out.step hb); replace R_ha := Aside0.mk (R_ha.out.step hb); replace R_h1 := Aside0.mk (R_h1.out.step hb); replace R_hb_ := Aside0.mk (R_hb_.out.step hb); replace K_r := Aside0.mk (K_r.out.step hb); replace K_a := Aside0.mk (K_a.out.step hb); replace K_b := Aside0.mk (K_b.out.step hb); replace HB := Aside0.mk (below_step HB.out hb)
                        clear hb
                        have c_a_0 := K_a.out.c0
                        have c_a_1 := K_a.out.c1
                        go_wp2_with fail
                        refine (within_calls A_h0 c_h0 hl A_ha c_ha ha A2 c2 es d w10 R_h0.out.row R_h0.out.cap R_ha.out.row R_ha.out.cap R_e.out.row R_e.out.cap HI.out).mono ?_
                        rw [U2.out]
                        rintro e_ w11 ⟨rfl, hb⟩
                        clear c_a_0 c_a_1
                        replace R_0 := Aside0.mk (R_0.out.step hb); replace R_1 := Aside0.mk (R_1.out.step hb); replace R_e := Aside0.mk (R_e.out.step hb); replace R_h0 := Aside0.mk (R_h0.out.step hb); replace R_ha := Aside0.mk (R_ha.out.step hb); replace R_h1 := Aside0.mk (R_h1.out.step hb); replace R_hb_ := Aside0.mk (R_hb_.out.step hb); replace K_r := Aside0.mk (K_r.out.step hb); replace K_a := Aside0.mk (K_a.out.step hb); replace K_b := Aside0.mk (K_b.out.step hb); replace HB := Aside0.mk (below_step HB.out hb)
                        clear hb
                        have c_b_0 := K_b.out.c0
                        have c_b_1 := K_b.out.c1
                        go_wp2_with fail
                        refine (within_calls A_h1 c_h1 hl A_hb_ c_hb_ hbb A2 c2 es d w11 R_h1.out.row R_h1.out.cap R_hb_.out.row R_hb_.out.cap R_e.out.row R_e.out.cap HI.out).mono ?_
                        rw [U3.out]
                        rintro e_ w12 ⟨rfl, hb⟩
                        clear c_b_0 c_b_1
                        replace R_0 := Aside0.mk (R_0.out.step hb); replace R_1 := Aside0.mk (R_1.out.step hb); replace R_e := Aside0.mk (R_e.out.step hb); replace R_h0 := Aside0.mk (R_h0.out.step hb); replace R_ha := Aside0.mk (R_ha.out.step hb); replace R_h1 := Aside0.mk (R_h1.out.step hb); replace R_hb_ := Aside0.mk (R_hb_.out.step hb); replace K_r := Aside0.mk (K_r.out.step hb); replace K_a := Aside0.mk (K_a.out.step hb); replace K_b := Aside0.mk (K_b.out.step hb); replace HB := Aside0.mk (below_step HB.out hb)
                        clear hb
                        have hb : Below w12.heap.size w12 w12.drew := below_drew (Below.refl _ _)
                        replace R_0 := Aside0.mk (R_0.out.step hb); replace R_1 := Aside0.mk (R_1.out.step hb); replace R_e := Aside0.mk (R_e.out.step hb); replace R_h0 := Aside0.mk (R_h0.out.step hb); replace R_ha := Aside0.mk (R_ha.out.step hb); replace R_h1 := Aside0.mk (R_h1.out.step hb); replace R_hb_ := Aside0.mk (R_hb_.out.step hb); replace K_r := Aside0.mk (K_r.out.step hb); replace K_a := Aside0.mk (K_a.out.step hb); replace K_b := Aside0.mk (K_b.out.step hb); replace HB := Aside0.mk (below_step HB.out hb)
                        clear hb
                        go_wp2_with fail
                        refine start_ (n := 9) (S := fun w' => w'.cell? ⟨g_r, 0, none⟩ = some (.slice A0 lv.length c0) ∧ w'.cell? ⟨g_r, 1, none⟩ = some (.slice A1 at_.length c1)) (ds := []) #[false, false, false, false, false, false, false, false, false] (by kernel_rfl) rfl rfl ⟨K_r.out.c0, K_r.out.c1⟩ (fun hHeld => ?_); refine with_tabW covers.tab24 covers.bits24 (fun HT_ HW_ => ?_)
                        generalize w12.drew = w13 at R_0 R_1 R_e R_h0 R_ha R_h1 R_hb_ K_r K_a K_b HB hHeld ⊢
                        refine pure_ (i := 1) (N := some 144) (v := ?_) (a' := ?_) #[false, true, false, false, false, false, false, false, false] rfl rfl (any_of HT_.out (by kernel_rfl)) (fun _ _ _ h => h) (Or.inl ⟨by rfl, ?_⟩) ?_ ?_; rotate_left; (focus (intro w'; go_simp; first | done | with_reducible rfl)); rotate_left; (focus (simp only [Act.put, List.setIfInBounds_toArray, List.set_cons_zero, List.set_cons_succ, i64_w, i32_w]; first | done | rfl))
                        refine take_ (i := 0) (N := some 143) (v := ?_) (a' := ?_) #[true, true, false, false, false, false, false, false, false] rfl rfl (take_ofW HT_.out HW_.out (by kernel_rfl)) (fun _ _ _ h => h) (Or.inl ⟨by rfl, ?_⟩) hHeld ?_ ?_; rotate_left; (focus (rintro w' ⟨s0, s1⟩; go_simp; first | done | with_reducible rfl)); rotate_left; (focus (simp only [Act.put, List.setIfInBounds_toArray, List.set_cons_zero, List.set_cons_succ, i64_w, i32_w]; first | done | rfl))
                        refine one_ (i := 2) (N := some 145) #[true, true, true, false, false, false, false, false, false] rfl rfl (one_of HT_.out (by kernel_rfl)) (by decide) (fun K hK => ?_)
                        refine Kd.R_make_step (Kd.int .i64) _ 3 (by rfl) (N := 145) rfl 22 _ _ rfl a rfl rfl Try.underlying22 (.int .i64 0) 8 info3 rfl (by decide) (by omega) 0 (ok := fun _ => True) (okp := fun _ => True) rfl (fun _ hk => hk) trivial (by have := HA.out; omega) (by have := HA.out; omega) (Below.refl _ _) (Nat.le_refl _) ?_
                        intro vz w14 ho hb hg_ hnew_
                        clear hg_ hnew_
                        rw [HZL.out] at ho
                        obtain ⟨A_z, c_z, rfl, r_z⟩ := Rd.of_R ho
                        replace R_0 := Aside0.mk (R_0.out.step hb); replace R_1 := Aside0.mk (R_1.out.step hb); replace R_e := Aside0.mk (R_e.out.step hb); replace R_h0 := Aside0.mk (R_h0.out.step hb); replace R_ha := Aside0.mk (R_ha.out.step hb); replace R_h1 := Aside0.mk (R_h1.out.step hb); replace R_hb_ := Aside0.mk (R_hb_.out.step hb); replace K_r := Aside0.mk (K_r.out.step hb); replace K_a := Aside0.mk (K_a.out.step hb); replace K_b := Aside0.mk (K_b.out.step hb); replace HB := Aside0.mk (below_step HB.out hb)
                        have R_z := Aside0.mk r_z
                        clear ho hb r_z
                        refine hK.out _ _ ⟨K_r.out.c0, K_r.out.c1⟩ (fun hHeld => ?_); clear hK K
                        refine norm_ (a' := ?_) ?_ ?_; rotate_left; (focus (show Act.put _ (some 145) _ = _; simp only [Act.put, List.setIfInBounds_toArray, List.set_cons_zero, List.set_cons_succ, i64_w, i32_w]; first | done | rfl))
                        refine one_ (i := 3) (N := some 146) #[true, true, true, true, false, false, false, false, false] rfl rfl (one_of HT_.out (by kernel_rfl)) (by decide) (fun K hK => ?_)
                        refine goes_ Try.func21 (by kernel_rfl) rfl #[.agg #[.slice A0 lv.length c0, .slice A1 at_.length c1], .slice A_z zl.length c_z, .int .i64 8] (by rfl) rfl rfl (by (try simp only [List.map_toArray, List.map_cons, List.map_nil]); first | done | rfl) ?_
                        refine (split_Ends.calls k6 A0 c0 lv A1 c1 at_ A_z c_z zl 8 el 0 w14 R_0.out.row R_0.out.cap R_1.out.row R_1.out.cap R_z.out.row R_z.out.cap F6.out).mono ?_
                        rintro e_ w15 ⟨v0, rfl, h0, hb⟩
                        refine ⟨_, rfl, ?_⟩
                        obtain ⟨A_el, c_el, rfl, r_el⟩ := Rd.of_R h0
                        replace R_0 := Aside0.mk (R_0.out.step hb); replace R_1 := Aside0.mk (R_1.out.step hb); replace R_e := Aside0.mk (R_e.out.step hb); replace R_h0 := Aside0.mk (R_h0.out.step hb); replace R_ha := Aside0.mk (R_ha.out.step hb); replace R_h1 := Aside0.mk (R_h1.out.step hb); replace R_hb_ := Aside0.mk (R_hb_.out.step hb); replace R_z := Aside0.mk (R_z.out.step hb); replace K_r := Aside0.mk (K_r.out.step hb); replace K_a := Aside0.mk (K_a.out.step hb); replace K_b := Aside0.mk (K_b.out.step hb); replace HB := Aside0.mk (below_step HB.out hb)
                        have R_el := Aside0.mk r_el
                        clear hb h0 r_el
                        refine hK.out _ _ ⟨K_r.out.c0, K_r.out.c1⟩ (fun hHeld => ?_); clear hK K
                        refine norm_ (a' := ?_) ?_ ?_; rotate_left; (focus (show Act.put _ (some 146) _ = _; simp only [Act.put, List.setIfInBounds_toArray, List.set_cons_zero, List.set_cons_succ, i64_w, i32_w]; first | done | rfl))
                        refine pure_ (i := 4) (N := some 142) (v := ?_) (a' := ?_) #[true, true, true, true, true, false, false, false, false] rfl rfl (any_of HT_.out (by kernel_rfl)) (fun _ _ _ h => h) (Or.inl ⟨by rfl, ?_⟩) ?_ ?_; rotate_left; (focus (intro w'; go_simp; first | done | with_reducible rfl)); rotate_left; (focus (simp only [Act.put, List.setIfInBounds_toArray, List.set_cons_zero, List.set_cons_succ, i64_w, i32_w]; first | done | rfl))
                        refine pure_ (i := 5) (N := some 147) (v := ?_) (a' := ?_) #[true, true, true, true, true, true, false, false, false] rfl rfl (any_of HT_.out (by kernel_rfl)) (fun _ _ _ h => h) (Or.inl ⟨by rfl, ?_⟩) ?_ ?_; rotate_left; (focus (intro w'; go_simp; first | done | with_reducible rfl)); rotate_left; (focus (simp only [Act.put, List.setIfInBounds_toArray, List.set_cons_zero, List.set_cons_succ, i64_w, i32_w]; first | done | rfl))
                        refine pure_ (i := 6) (N := some 148) (v := ?_) (a' := ?_) #[true, true, true, true, true, true, true, false, false] rfl rfl (any_of HT_.out (by kernel_rfl)) (fun _ _ _ h => h) (Or.inl ⟨by rfl, ?_⟩) ?_ ?_; rotate_left; (focus (intro w'; go_simp; first | done | with_reducible rfl)); rotate_left; (focus (simp only [Act.put, List.setIfInBounds_toArray, List.set_cons_zero, List.set_cons_succ, i64_w, i32_w]; first | done | rfl))
                        refine pure_ (i := 7) (N := some 21) (v := ?_) (a' := ?_) #[true, true, true, true, true, true, true, true, false] rfl rfl (any_of HT_.out (by kernel_rfl)) (fun _ _ _ h => h) (Or.inl ⟨by rfl, ?_⟩) ?_ ?_; rotate_left; (focus (intro w'; go_simp; first | done | with_reducible rfl)); rotate_left; (focus (simp only [Act.put, List.setIfInBounds_toArray, List.set_cons_zero, List.set_cons_succ, i64_w, i32_w]; first | done | rfl))
                        refine pure_ (i := 8) (N := some 22) (v := ?_) (a' := ?_) #[true, true, true, true, true, true, true, true, true] rfl rfl (any_of HT_.out (by kernel_rfl)) (fun _ _ _ h => h) (Or.inl ⟨by rfl, ?_⟩) ?_ ?_; rotate_left; (focus (intro w'; go_simp; first | done | with_reducible rfl)); rotate_left; (focus (simp only [Act.put, List.setIfInBounds_toArray, List.set_cons_zero, List.set_cons_succ, i64_w, i32_w]; first | done | rfl))
                        refine done_ (done_of HT_.out (by kernel_rfl)) ?_
                        obtain ⟨rfl, hj2l⟩ := HS.out
                        have hc2 := HC.out j2 (by have := HA.out; have := HG.out; omega)
                        rw [← HP.out] at hc2
                        have hpd2 : 0 < pd ∧ pd ≤ 1099511627776 := by rw [HP.out]; exact pow40 d HA.out.2.2.2.1 HA.out.2.2.2.2
                        have hf3 := HEL.out.2
                        obtain ⟨ael, e1, hq1⟩ := Kd.at_int R_el.out.row (j2 : Int) (by omega) (by have := HEL.out.1; omega)
                        cases e1
                        obtain ⟨aes, e1, hq2⟩ := Kd.at_int R_e.out.row (j2 : Int) (by omega) (by have := HA.out; have := HG.out; omega)
                        cases e1
                        rw [Int.toNat_natCast] at hq1 hq2
                        have k1 := eq_true (show j2 < el.length by have := HEL.out.1; omega)
                        have k2_ := eq_true (show j2 < es.length by have := HA.out; have := HG.out; omega)
                        have k3 := eq_true (show (0 : Int) ≤ (j2 : Int) by omega)
                        have k4_ := eq_true (show (j2 : Int) < (el.length : Int) by have := HEL.out.1; omega)
                        have k5_ := eq_true (show (j2 : Int) < (es.length : Int) by have := HA.out; have := HG.out; omega)
                        have hell : ((el.length : Int) != a) = false := by rw [bne_eq_false_iff_eq]; have := HEL.out.1; have := HG.out.2.1; omega
                        have hcov := cover_bool U1.out U2.out U3.out HQ.out.1 HQ.out.2
                        generalize rd el (j2 : Int) = z1 at *
                        generalize rd es (j2 : Int) = z2 at *
                        rw [← HP.out] at hcov
                        obtain ⟨cl, hcl⟩ : ∃ c : Int, c = z1 * pd := ⟨_, rfl⟩
                        obtain ⟨cr, hcr⟩ : ∃ c : Int, c = z2 * 256 := ⟨_, rfl⟩
                        rw [show (2 : Int) ^ 8 = 256 by decide, ← hcl, ← hcr] at hcov
                        obtain ⟨t1, t2⟩ := shl_cut d pd z1 cl HA.out.2.2.2.1 HA.out.2.2.2.2 HP.out hf3.1 hf3.2 hcl
                        obtain ⟨t3, t4, t5, t6⟩ := shl_256 z2 cr (by omega) (by omega) hcr
                        have HCOV := Aside0.mk hcov
                        clear hcov hcl hcr hc2 hpd2 hf3 hj2l
                        rcases HCOV.out with ⟨rfl, rfl, rfl, hC⟩ | ⟨rfl, rfl, rfl, hC⟩ | ⟨rfl, rfl, rfl, hC⟩ | ⟨rfl, rfl, rfl⟩
                        · have hcb : (cl == cr) = true := by rw [beq_iff_eq]; exact hC
                          clear hC
                          go_wp2_with fail
                          go_quiet (fail)
                          generalize hwd : w15.drewN _ = w16
                          have hb : Below w15.heap.size w15 w16 := by rw [← hwd]; exact below_drewN (Below.refl _ _) _
                          replace R_0 := Aside0.mk (R_0.out.step hb); replace R_1 := Aside0.mk (R_1.out.step hb); replace R_e := Aside0.mk (R_e.out.step hb); replace R_h0 := Aside0.mk (R_h0.out.step hb); replace R_ha := Aside0.mk (R_ha.out.step hb); replace R_h1 := Aside0.mk (R_h1.out.step hb); replace R_hb_ := Aside0.mk (R_hb_.out.step hb); replace R_z := Aside0.mk (R_z.out.step hb); replace R_el := Aside0.mk (R_el.out.step hb); replace K_r := Aside0.mk (K_r.out.step hb); replace K_a := Aside0.mk (K_a.out.step hb); replace K_b := Aside0.mk (K_b.out.step hb); replace HB := Aside0.mk (below_step HB.out hb)
                          clear hb hwd hq1 hq2
                          have c_a_0 := K_a.out.c0
                          have c_a_1 := K_a.out.c1
                          cases up
                          · have hupT : True := trivial
                            go_wp2_with (first
    | ((with_reducible refine gate_store (t := 24) (p := 10) rfl ?_); refine store_row_event rfl 24 rfl rfl g_r #[.slice A_h0 hl.length c_h0, .slice A_ha ha.length c_ha] rfl rfl 24 _ K_r.out (info24.trans rfl) rfl (slices_one _ _ _ _ _ _) ?_; intro w17 hw_ hg_; replace R_0 := Aside0.mk (R_0.out.put K_r.out hg_); replace R_1 := Aside0.mk (R_1.out.put K_r.out hg_); replace R_e := Aside0.mk (R_e.out.put K_r.out hg_); replace R_h0 := Aside0.mk (R_h0.out.put K_r.out hg_); replace R_ha := Aside0.mk (R_ha.out.put K_r.out hg_); replace R_h1 := Aside0.mk (R_h1.out.put K_r.out hg_); replace R_hb_ := Aside0.mk (R_hb_.out.put K_r.out hg_); replace R_z := Aside0.mk (R_z.out.put K_r.out hg_); replace R_el := Aside0.mk (R_el.out.put K_r.out hg_); replace K_a := Aside0.mk (K_a.out.put hg_ N_a_r.out.symm); replace K_b := Aside0.mk (K_b.out.put hg_ N_b_r.out.symm); replace HB := Aside0.mk (HB.out.grown hg_ HB.out.size (fun k_ hk_ => by cases hk_; exact L_r.out)); replace K_r := Aside0.mk (show Bx w17 g_r A_h0 hl.length c_h0 A_ha ha.length c_ha from hw_); clear hw_ hg_; have c_r_0 := K_r.out.c0; have c_r_1 := K_r.out.c1; have hyu := HY.out _ HB.out)
    | fail)
                            refine (split_Way.calls k4 A_h0 c_h0 hl A_ha c_ha ha (n + 1) 0 w17 R_h0.out.row R_h0.out.cap R_ha.out.row R_ha.out.cap F4.out).mono ?_
                            rintro e_ w18 ⟨rfl, hb⟩
                            replace R_0 := Aside0.mk (R_0.out.step hb); replace R_1 := Aside0.mk (R_1.out.step hb); replace R_e := Aside0.mk (R_e.out.step hb); replace R_h0 := Aside0.mk (R_h0.out.step hb); replace R_ha := Aside0.mk (R_ha.out.step hb); replace R_h1 := Aside0.mk (R_h1.out.step hb); replace R_hb_ := Aside0.mk (R_hb_.out.step hb); replace R_z := Aside0.mk (R_z.out.step hb); replace R_el := Aside0.mk (R_el.out.step hb); replace K_r := Aside0.mk (K_r.out.step hb); replace K_a := Aside0.mk (K_a.out.step hb); replace K_b := Aside0.mk (K_b.out.step hb); replace HB := Aside0.mk (below_step HB.out hb)
                            clear hb
                            go_wp2_with fail
                            go_roundg (gk - 1)
                            case measure => have := hm.out; have := HJ.out; omega
                            case rel => exact ⟨(j : Int) + 1, n + 1, hl, ha, A_h0, A_ha, c_h0, c_ha, by first | rfl | (rw [HN1.out]), by rw [show wrap64 ((j : Int) + 1) = (j : Int) + 1 from w64 _ (by omega) (by have := HJ.out; omega)], ⟨by have := hm.out; have := HJ.out; omega⟩, ⟨⟨HO.out.1, by have := HO.out.2.2.1; have := HG.out.2.1; omega, HO.out.2.2.2⟩⟩, K_r, R_h0, R_ha, R_e, HB⟩
                          · have hupT : True := trivial
                            go_wp2_with (first
    | ((with_reducible refine gate_store (t := 24) (p := 10) rfl ?_); refine store_row_event rfl 24 rfl rfl g_r #[.slice A_h0 hl.length c_h0, .slice A_ha ha.length c_ha] rfl rfl 24 _ K_r.out (info24.trans rfl) rfl (slices_one _ _ _ _ _ _) ?_; intro w17 hw_ hg_; replace R_0 := Aside0.mk (R_0.out.put K_r.out hg_); replace R_1 := Aside0.mk (R_1.out.put K_r.out hg_); replace R_e := Aside0.mk (R_e.out.put K_r.out hg_); replace R_h0 := Aside0.mk (R_h0.out.put K_r.out hg_); replace R_ha := Aside0.mk (R_ha.out.put K_r.out hg_); replace R_h1 := Aside0.mk (R_h1.out.put K_r.out hg_); replace R_hb_ := Aside0.mk (R_hb_.out.put K_r.out hg_); replace R_z := Aside0.mk (R_z.out.put K_r.out hg_); replace R_el := Aside0.mk (R_el.out.put K_r.out hg_); replace K_a := Aside0.mk (K_a.out.put hg_ N_a_r.out.symm); replace K_b := Aside0.mk (K_b.out.put hg_ N_b_r.out.symm); replace HB := Aside0.mk (HB.out.grown hg_ HB.out.size (fun k_ hk_ => by cases hk_; exact L_r.out)); replace K_r := Aside0.mk (show Bx w17 g_r A_h0 hl.length c_h0 A_ha ha.length c_ha from hw_); clear hw_ hg_; have c_r_0 := K_r.out.c0; have c_r_1 := K_r.out.c1; have hyu := HY.out _ HB.out; have c_b_0 := K_b.out.c0; have c_b_1 := K_b.out.c1)
    | ((with_reducible refine gate_store (t := 24) (p := 10) rfl ?_); refine store_row_event rfl 24 rfl rfl g_r #[.slice A_h1 hl.length c_h1, .slice A_hb_ hbb.length c_hb_] rfl rfl 24 _ K_r.out (info24.trans rfl) rfl (slices_one _ _ _ _ _ _) ?_; intro w18 hw_ hg_; replace R_0 := Aside0.mk (R_0.out.put K_r.out hg_); replace R_1 := Aside0.mk (R_1.out.put K_r.out hg_); replace R_e := Aside0.mk (R_e.out.put K_r.out hg_); replace R_h0 := Aside0.mk (R_h0.out.put K_r.out hg_); replace R_ha := Aside0.mk (R_ha.out.put K_r.out hg_); replace R_h1 := Aside0.mk (R_h1.out.put K_r.out hg_); replace R_hb_ := Aside0.mk (R_hb_.out.put K_r.out hg_); replace R_z := Aside0.mk (R_z.out.put K_r.out hg_); replace R_el := Aside0.mk (R_el.out.put K_r.out hg_); replace K_a := Aside0.mk (K_a.out.put hg_ N_a_r.out.symm); replace K_b := Aside0.mk (K_b.out.put hg_ N_b_r.out.symm); replace HB := Aside0.mk (HB.out.grown hg_ HB.out.size (fun k_ hk_ => by cases hk_; exact L_r.out)); replace K_r := Aside0.mk (show Bx w18 g_r A_h1 hl.length c_h1 A_hb_ hbb.length c_hb_ from hw_); clear hw_ hg_; have c_r_0 := K_r.out.c0; have c_r_1 := K_r.out.c1)
    | fail)
                            refine (split_Way.calls k5 A_h1 c_h1 hl A_hb_ c_hb_ hbb (n + 1) 0 w18 R_h1.out.row R_h1.out.cap R_hb_.out.row R_hb_.out.cap F5.out).mono ?_
                            rintro e_ w19 ⟨rfl, hb⟩
                            replace R_0 := Aside0.mk (R_0.out.step hb); replace R_1 := Aside0.mk (R_1.out.step hb); replace R_e := Aside0.mk (R_e.out.step hb); replace R_h0 := Aside0.mk (R_h0.out.step hb); replace R_ha := Aside0.mk (R_ha.out.step hb); replace R_h1 := Aside0.mk (R_h1.out.step hb); replace R_hb_ := Aside0.mk (R_hb_.out.step hb); replace R_z := Aside0.mk (R_z.out.step hb); replace R_el := Aside0.mk (R_el.out.step hb); replace K_r := Aside0.mk (K_r.out.step hb); replace K_a := Aside0.mk (K_a.out.step hb); replace K_b := Aside0.mk (K_b.out.step hb); replace HB := Aside0.mk (below_step HB.out hb)
                            clear hb
                            go_wp2_with fail
                            go_roundg (gk - 1)
                            case measure => have := hm.out; have := HJ.out; omega
                            case rel => exact ⟨(j : Int) + 1, n + 1, hl, hbb, A_h1, A_hb_, c_h1, c_hb_, by first | rfl | (rw [HN1.out]), by rw [show wrap64 ((j : Int) + 1) = (j : Int) + 1 from w64 _ (by omega) (by have := HJ.out; omega)], ⟨by have := hm.out; have := HJ.out; omega⟩, ⟨⟨HO.out.2.1, by have := HO.out.2.2.1; have := HG.out.2.1; omega, HO.out.2.2.2⟩⟩, K_r, R_h1, R_hb_, R_e, HB⟩
                        · have hcb : (cl == cr) = false := by rw [beq_eq_false_iff_ne]; exact hC
                          clear hC
                          go_wp2_with fail
                          go_quiet (fail)
                          generalize hwd : w15.drewN _ = w16
                          have hb : Below w15.heap.size w15 w16 := by rw [← hwd]; exact below_drewN (Below.refl _ _) _
                          replace R_0 := Aside0.mk (R_0.out.step hb); replace R_1 := Aside0.mk (R_1.out.step hb); replace R_e := Aside0.mk (R_e.out.step hb); replace R_h0 := Aside0.mk (R_h0.out.step hb); replace R_ha := Aside0.mk (R_ha.out.step hb); replace R_h1 := Aside0.mk (R_h1.out.step hb); replace R_hb_ := Aside0.mk (R_hb_.out.step hb); replace R_z := Aside0.mk (R_z.out.step hb); replace R_el := Aside0.mk (R_el.out.step hb); replace K_r := Aside0.mk (K_r.out.step hb); replace K_a := Aside0.mk (K_a.out.step hb); replace K_b := Aside0.mk (K_b.out.step hb); replace HB := Aside0.mk (below_step HB.out hb)
                          clear hb hwd hq1 hq2
                          have c_a_0 := K_a.out.c0
                          have c_a_1 := K_a.out.c1
                          cases up
                          · have hupT : True := trivial
                            go_wp2_with (first
    | ((with_reducible refine gate_store (t := 24) (p := 10) rfl ?_); refine store_row_event rfl 24 rfl rfl g_r #[.slice A_h0 hl.length c_h0, .slice A_ha ha.length c_ha] rfl rfl 24 _ K_r.out (info24.trans rfl) rfl (slices_one _ _ _ _ _ _) ?_; intro w17 hw_ hg_; replace R_0 := Aside0.mk (R_0.out.put K_r.out hg_); replace R_1 := Aside0.mk (R_1.out.put K_r.out hg_); replace R_e := Aside0.mk (R_e.out.put K_r.out hg_); replace R_h0 := Aside0.mk (R_h0.out.put K_r.out hg_); replace R_ha := Aside0.mk (R_ha.out.put K_r.out hg_); replace R_h1 := Aside0.mk (R_h1.out.put K_r.out hg_); replace R_hb_ := Aside0.mk (R_hb_.out.put K_r.out hg_); replace R_z := Aside0.mk (R_z.out.put K_r.out hg_); replace R_el := Aside0.mk (R_el.out.put K_r.out hg_); replace K_a := Aside0.mk (K_a.out.put hg_ N_a_r.out.symm); replace K_b := Aside0.mk (K_b.out.put hg_ N_b_r.out.symm); replace HB := Aside0.mk (HB.out.grown hg_ HB.out.size (fun k_ hk_ => by cases hk_; exact L_r.out)); replace K_r := Aside0.mk (show Bx w17 g_r A_h0 hl.length c_h0 A_ha ha.length c_ha from hw_); clear hw_ hg_; have c_r_0 := K_r.out.c0; have c_r_1 := K_r.out.c1; have hyu := HY.out _ HB.out)
    | fail)
                            refine (split_Way.calls k4 A_h0 c_h0 hl A_ha c_ha ha (n + 1) 0 w17 R_h0.out.row R_h0.out.cap R_ha.out.row R_ha.out.cap F4.out).mono ?_
                            rintro e_ w18 ⟨rfl, hb⟩
                            replace R_0 := Aside0.mk (R_0.out.step hb); replace R_1 := Aside0.mk (R_1.out.step hb); replace R_e := Aside0.mk (R_e.out.step hb); replace R_h0 := Aside0.mk (R_h0.out.step hb); replace R_ha := Aside0.mk (R_ha.out.step hb); replace R_h1 := Aside0.mk (R_h1.out.step hb); replace R_hb_ := Aside0.mk (R_hb_.out.step hb); replace R_z := Aside0.mk (R_z.out.step hb); replace R_el := Aside0.mk (R_el.out.step hb); replace K_r := Aside0.mk (K_r.out.step hb); replace K_a := Aside0.mk (K_a.out.step hb); replace K_b := Aside0.mk (K_b.out.step hb); replace HB := Aside0.mk (below_step HB.out hb)
                            clear hb
                            go_wp2_with fail
                            go_roundg (gk - 1)
                            case measure => have := hm.out; have := HJ.out; omega
                            case rel => exact ⟨(j : Int) + 1, n + 1, hl, ha, A_h0, A_ha, c_h0, c_ha, by first | rfl | (rw [HN1.out]), by rw [show wrap64 ((j : Int) + 1) = (j : Int) + 1 from w64 _ (by omega) (by have := HJ.out; omega)], ⟨by have := hm.out; have := HJ.out; omega⟩, ⟨⟨HO.out.1, by have := HO.out.2.2.1; have := HG.out.2.1; omega, HO.out.2.2.2⟩⟩, K_r, R_h0, R_ha, R_e, HB⟩
                          · have hupT : True := trivial
                            go_wp2_with (first
    | ((with_reducible refine gate_store (t := 24) (p := 10) rfl ?_); refine store_row_event rfl 24 rfl rfl g_r #[.slice A_h0 hl.length c_h0, .slice A_ha ha.length c_ha] rfl rfl 24 _ K_r.out (info24.trans rfl) rfl (slices_one _ _ _ _ _ _) ?_; intro w17 hw_ hg_; replace R_0 := Aside0.mk (R_0.out.put K_r.out hg_); replace R_1 := Aside0.mk (R_1.out.put K_r.out hg_); replace R_e := Aside0.mk (R_e.out.put K_r.out hg_); replace R_h0 := Aside0.mk (R_h0.out.put K_r.out hg_); replace R_ha := Aside0.mk (R_ha.out.put K_r.out hg_); replace R_h1 := Aside0.mk (R_h1.out.put K_r.out hg_); replace R_hb_ := Aside0.mk (R_hb_.out.put K_r.out hg_); replace R_z := Aside0.mk (R_z.out.put K_r.out hg_); replace R_el := Aside0.mk (R_el.out.put K_r.out hg_); replace K_a := Aside0.mk (K_a.out.put hg_ N_a_r.out.symm); replace K_b := Aside0.mk (K_b.out.put hg_ N_b_r.out.symm); replace HB := Aside0.mk (HB.out.grown hg_ HB.out.size (fun k_ hk_ => by cases hk_; exact L_r.out)); replace K_r := Aside0.mk (show Bx w17 g_r A_h0 hl.length c_h0 A_ha ha.length c_ha from hw_); clear hw_ hg_; have c_r_0 := K_r.out.c0; have c_r_1 := K_r.out.c1; have hyu := HY.out _ HB.out; have c_b_0 := K_b.out.c0; have c_b_1 := K_b.out.c1)
    | ((with_reducible refine gate_store (t := 24) (p := 10) rfl ?_); refine store_row_event rfl 24 rfl rfl g_r #[.slice A_h1 hl.length c_h1, .slice A_hb_ hbb.length c_hb_] rfl rfl 24 _ K_r.out (info24.trans rfl) rfl (slices_one _ _ _ _ _ _) ?_; intro w18 hw_ hg_; replace R_0 := Aside0.mk (R_0.out.put K_r.out hg_); replace R_1 := Aside0.mk (R_1.out.put K_r.out hg_); replace R_e := Aside0.mk (R_e.out.put K_r.out hg_); replace R_h0 := Aside0.mk (R_h0.out.put K_r.out hg_); replace R_ha := Aside0.mk (R_ha.out.put K_r.out hg_); replace R_h1 := Aside0.mk (R_h1.out.put K_r.out hg_); replace R_hb_ := Aside0.mk (R_hb_.out.put K_r.out hg_); replace R_z := Aside0.mk (R_z.out.put K_r.out hg_); replace R_el := Aside0.mk (R_el.out.put K_r.out hg_); replace K_a := Aside0.mk (K_a.out.put hg_ N_a_r.out.symm); replace K_b := Aside0.mk (K_b.out.put hg_ N_b_r.out.symm); replace HB := Aside0.mk (HB.out.grown hg_ HB.out.size (fun k_ hk_ => by cases hk_; exact L_r.out)); replace K_r := Aside0.mk (show Bx w18 g_r A_h1 hl.length c_h1 A_hb_ hbb.length c_hb_ from hw_); clear hw_ hg_; have c_r_0 := K_r.out.c0; have c_r_1 := K_r.out.c1)
    | fail)
                            refine (split_Way.calls k5 A_h1 c_h1 hl A_hb_ c_hb_ hbb (n + 1) 0 w18 R_h1.out.row R_h1.out.cap R_hb_.out.row R_hb_.out.cap F5.out).mono ?_
                            rintro e_ w19 ⟨rfl, hb⟩
                            replace R_0 := Aside0.mk (R_0.out.step hb); replace R_1 := Aside0.mk (R_1.out.step hb); replace R_e := Aside0.mk (R_e.out.step hb); replace R_h0 := Aside0.mk (R_h0.out.step hb); replace R_ha := Aside0.mk (R_ha.out.step hb); replace R_h1 := Aside0.mk (R_h1.out.step hb); replace R_hb_ := Aside0.mk (R_hb_.out.step hb); replace R_z := Aside0.mk (R_z.out.step hb); replace R_el := Aside0.mk (R_el.out.step hb); replace K_r := Aside0.mk (K_r.out.step hb); replace K_a := Aside0.mk (K_a.out.step hb); replace K_b := Aside0.mk (K_b.out.step hb); replace HB := Aside0.mk (below_step HB.out hb)
                            clear hb
                            go_wp2_with fail
                            go_roundg (gk - 1)
                            case measure => have := hm.out; have := HJ.out; omega
                            case rel => exact ⟨(j : Int) + 1, n + 1, hl, hbb, A_h1, A_hb_, c_h1, c_hb_, by first | rfl | (rw [HN1.out]), by rw [show wrap64 ((j : Int) + 1) = (j : Int) + 1 from w64 _ (by omega) (by have := HJ.out; omega)], ⟨by have := hm.out; have := HJ.out; omega⟩, ⟨⟨HO.out.2.1, by have := HO.out.2.2.1; have := HG.out.2.1; omega, HO.out.2.2.2⟩⟩, K_r, R_h1, R_hb_, R_e, HB⟩
                        · have hcb : (cl == cr) = false := by rw [beq_eq_false_iff_ne]; exact hC
                          clear hC
                          go_wp2_with fail
                          go_quiet (fail)
                          generalize hwd : w15.drewN _ = w16
                          have hb : Below w15.heap.size w15 w16 := by rw [← hwd]; exact below_drewN (Below.refl _ _) _
                          replace R_0 := Aside0.mk (R_0.out.step hb); replace R_1 := Aside0.mk (R_1.out.step hb); replace R_e := Aside0.mk (R_e.out.step hb); replace R_h0 := Aside0.mk (R_h0.out.step hb); replace R_ha := Aside0.mk (R_ha.out.step hb); replace R_h1 := Aside0.mk (R_h1.out.step hb); replace R_hb_ := Aside0.mk (R_hb_.out.step hb); replace R_z := Aside0.mk (R_z.out.step hb); replace R_el := Aside0.mk (R_el.out.step hb); replace K_r := Aside0.mk (K_r.out.step hb); replace K_a := Aside0.mk (K_a.out.step hb); replace K_b := Aside0.mk (K_b.out.step hb); replace HB := Aside0.mk (below_step HB.out hb)
                          clear hb hwd hq1 hq2
                          have c_a_0 := K_a.out.c0
                          have c_a_1 := K_a.out.c1
                          cases up
                          · have hupT : True := trivial
                            go_wp2_with (first
    | ((with_reducible refine gate_store (t := 24) (p := 10) rfl ?_); refine store_row_event rfl 24 rfl rfl g_r #[.slice A_h0 hl.length c_h0, .slice A_ha ha.length c_ha] rfl rfl 24 _ K_r.out (info24.trans rfl) rfl (slices_one _ _ _ _ _ _) ?_; intro w17 hw_ hg_; replace R_0 := Aside0.mk (R_0.out.put K_r.out hg_); replace R_1 := Aside0.mk (R_1.out.put K_r.out hg_); replace R_e := Aside0.mk (R_e.out.put K_r.out hg_); replace R_h0 := Aside0.mk (R_h0.out.put K_r.out hg_); replace R_ha := Aside0.mk (R_ha.out.put K_r.out hg_); replace R_h1 := Aside0.mk (R_h1.out.put K_r.out hg_); replace R_hb_ := Aside0.mk (R_hb_.out.put K_r.out hg_); replace R_z := Aside0.mk (R_z.out.put K_r.out hg_); replace R_el := Aside0.mk (R_el.out.put K_r.out hg_); replace K_a := Aside0.mk (K_a.out.put hg_ N_a_r.out.symm); replace K_b := Aside0.mk (K_b.out.put hg_ N_b_r.out.symm); replace HB := Aside0.mk (HB.out.grown hg_ HB.out.size (fun k_ hk_ => by cases hk_; exact L_r.out)); replace K_r := Aside0.mk (show Bx w17 g_r A_h0 hl.length c_h0 A_ha ha.length c_ha from hw_); clear hw_ hg_; have c_r_0 := K_r.out.c0; have c_r_1 := K_r.out.c1; have hyu := HY.out _ HB.out)
    | fail)
                            refine (split_Way.calls k4 A_h0 c_h0 hl A_ha c_ha ha (n + 1) 0 w17 R_h0.out.row R_h0.out.cap R_ha.out.row R_ha.out.cap F4.out).mono ?_
                            rintro e_ w18 ⟨rfl, hb⟩
                            replace R_0 := Aside0.mk (R_0.out.step hb); replace R_1 := Aside0.mk (R_1.out.step hb); replace R_e := Aside0.mk (R_e.out.step hb); replace R_h0 := Aside0.mk (R_h0.out.step hb); replace R_ha := Aside0.mk (R_ha.out.step hb); replace R_h1 := Aside0.mk (R_h1.out.step hb); replace R_hb_ := Aside0.mk (R_hb_.out.step hb); replace R_z := Aside0.mk (R_z.out.step hb); replace R_el := Aside0.mk (R_el.out.step hb); replace K_r := Aside0.mk (K_r.out.step hb); replace K_a := Aside0.mk (K_a.out.step hb); replace K_b := Aside0.mk (K_b.out.step hb); replace HB := Aside0.mk (below_step HB.out hb)
                            clear hb
                            go_wp2_with fail
                            go_roundg (gk - 1)
                            case measure => have := hm.out; have := HJ.out; omega
                            case rel => exact ⟨(j : Int) + 1, n + 1, hl, ha, A_h0, A_ha, c_h0, c_ha, by first | rfl | (rw [HN1.out]), by rw [show wrap64 ((j : Int) + 1) = (j : Int) + 1 from w64 _ (by omega) (by have := HJ.out; omega)], ⟨by have := hm.out; have := HJ.out; omega⟩, ⟨⟨HO.out.1, by have := HO.out.2.2.1; have := HG.out.2.1; omega, HO.out.2.2.2⟩⟩, K_r, R_h0, R_ha, R_e, HB⟩
                          · have hupT : True := trivial
                            go_wp2_with (first
    | ((with_reducible refine gate_store (t := 24) (p := 10) rfl ?_); refine store_row_event rfl 24 rfl rfl g_r #[.slice A_h0 hl.length c_h0, .slice A_ha ha.length c_ha] rfl rfl 24 _ K_r.out (info24.trans rfl) rfl (slices_one _ _ _ _ _ _) ?_; intro w17 hw_ hg_; replace R_0 := Aside0.mk (R_0.out.put K_r.out hg_); replace R_1 := Aside0.mk (R_1.out.put K_r.out hg_); replace R_e := Aside0.mk (R_e.out.put K_r.out hg_); replace R_h0 := Aside0.mk (R_h0.out.put K_r.out hg_); replace R_ha := Aside0.mk (R_ha.out.put K_r.out hg_); replace R_h1 := Aside0.mk (R_h1.out.put K_r.out hg_); replace R_hb_ := Aside0.mk (R_hb_.out.put K_r.out hg_); replace R_z := Aside0.mk (R_z.out.put K_r.out hg_); replace R_el := Aside0.mk (R_el.out.put K_r.out hg_); replace K_a := Aside0.mk (K_a.out.put hg_ N_a_r.out.symm); replace K_b := Aside0.mk (K_b.out.put hg_ N_b_r.out.symm); replace HB := Aside0.mk (HB.out.grown hg_ HB.out.size (fun k_ hk_ => by cases hk_; exact L_r.out)); replace K_r := Aside0.mk (show Bx w17 g_r A_h0 hl.length c_h0 A_ha ha.length c_ha from hw_); clear hw_ hg_; have c_r_0 := K_r.out.c0; have c_r_1 := K_r.out.c1; have hyu := HY.out _ HB.out; have c_b_0 := K_b.out.c0; have c_b_1 := K_b.out.c1)
    | ((with_reducible refine gate_store (t := 24) (p := 10) rfl ?_); refine store_row_event rfl 24 rfl rfl g_r #[.slice A_h1 hl.length c_h1, .slice A_hb_ hbb.length c_hb_] rfl rfl 24 _ K_r.out (info24.trans rfl) rfl (slices_one _ _ _ _ _ _) ?_; intro w18 hw_ hg_; replace R_0 := Aside0.mk (R_0.out.put K_r.out hg_); replace R_1 := Aside0.mk (R_1.out.put K_r.out hg_); replace R_e := Aside0.mk (R_e.out.put K_r.out hg_); replace R_h0 := Aside0.mk (R_h0.out.put K_r.out hg_); replace R_ha := Aside0.mk (R_ha.out.put K_r.out hg_); replace R_h1 := Aside0.mk (R_h1.out.put K_r.out hg_); replace R_hb_ := Aside0.mk (R_hb_.out.put K_r.out hg_); replace R_z := Aside0.mk (R_z.out.put K_r.out hg_); replace R_el := Aside0.mk (R_el.out.put K_r.out hg_); replace K_a := Aside0.mk (K_a.out.put hg_ N_a_r.out.symm); replace K_b := Aside0.mk (K_b.out.put hg_ N_b_r.out.symm); replace HB := Aside0.mk (HB.out.grown hg_ HB.out.size (fun k_ hk_ => by cases hk_; exact L_r.out)); replace K_r := Aside0.mk (show Bx w18 g_r A_h1 hl.length c_h1 A_hb_ hbb.length c_hb_ from hw_); clear hw_ hg_; have c_r_0 := K_r.out.c0; have c_r_1 := K_r.out.c1)
    | fail)
                            refine (split_Way.calls k5 A_h1 c_h1 hl A_hb_ c_hb_ hbb (n + 1) 0 w18 R_h1.out.row R_h1.out.cap R_hb_.out.row R_hb_.out.cap F5.out).mono ?_
                            rintro e_ w19 ⟨rfl, hb⟩
                            replace R_0 := Aside0.mk (R_0.out.step hb); replace R_1 := Aside0.mk (R_1.out.step hb); replace R_e := Aside0.mk (R_e.out.step hb); replace R_h0 := Aside0.mk (R_h0.out.step hb); replace R_ha := Aside0.mk (R_ha.out.step hb); replace R_h1 := Aside0.mk (R_h1.out.step hb); replace R_hb_ := Aside0.mk (R_hb_.out.step hb); replace R_z := Aside0.mk (R_z.out.step hb); replace R_el := Aside0.mk (R_el.out.step hb); replace K_r := Aside0.mk (K_r.out.step hb); replace K_a := Aside0.mk (K_a.out.step hb); replace K_b := Aside0.mk (K_b.out.step hb); replace HB := Aside0.mk (below_step HB.out hb)
                            clear hb
                            go_wp2_with fail
                            go_roundg (gk - 1)
                            case measure => have := hm.out; have := HJ.out; omega
                            case rel => exact ⟨(j : Int) + 1, n + 1, hl, hbb, A_h1, A_hb_, c_h1, c_hb_, by first | rfl | (rw [HN1.out]), by rw [show wrap64 ((j : Int) + 1) = (j : Int) + 1 from w64 _ (by omega) (by have := HJ.out; omega)], ⟨by have := hm.out; have := HJ.out; omega⟩, ⟨⟨HO.out.2.1, by have := HO.out.2.2.1; have := HG.out.2.1; omega, HO.out.2.2.2⟩⟩, K_r, R_h1, R_hb_, R_e, HB⟩
                        · have hcb : True := trivial
                          go_wp2_with fail
                          go_quiet (fail)
                          generalize hwd : w15.drewN _ = w16
                          have hb : Below w15.heap.size w15 w16 := by rw [← hwd]; exact below_drewN (Below.refl _ _) _
                          replace R_0 := Aside0.mk (R_0.out.step hb); replace R_1 := Aside0.mk (R_1.out.step hb); replace R_e := Aside0.mk (R_e.out.step hb); replace R_h0 := Aside0.mk (R_h0.out.step hb); replace R_ha := Aside0.mk (R_ha.out.step hb); replace R_h1 := Aside0.mk (R_h1.out.step hb); replace R_hb_ := Aside0.mk (R_hb_.out.step hb); replace R_z := Aside0.mk (R_z.out.step hb); replace R_el := Aside0.mk (R_el.out.step hb); replace K_r := Aside0.mk (K_r.out.step hb); replace K_a := Aside0.mk (K_a.out.step hb); replace K_b := Aside0.mk (K_b.out.step hb); replace HB := Aside0.mk (below_step HB.out hb)
                          clear hb hwd hq1 hq2
                          have c_a_0 := K_a.out.c0
                          have c_a_1 := K_a.out.c1
                          cases up
                          · have hupT : True := trivial
                            go_wp2_with (first
    | ((with_reducible refine gate_store (t := 24) (p := 10) rfl ?_); refine store_row_event rfl 24 rfl rfl g_r #[.slice A_h0 hl.length c_h0, .slice A_ha ha.length c_ha] rfl rfl 24 _ K_r.out (info24.trans rfl) rfl (slices_one _ _ _ _ _ _) ?_; intro w17 hw_ hg_; replace R_0 := Aside0.mk (R_0.out.put K_r.out hg_); replace R_1 := Aside0.mk (R_1.out.put K_r.out hg_); replace R_e := Aside0.mk (R_e.out.put K_r.out hg_); replace R_h0 := Aside0.mk (R_h0.out.put K_r.out hg_); replace R_ha := Aside0.mk (R_ha.out.put K_r.out hg_); replace R_h1 := Aside0.mk (R_h1.out.put K_r.out hg_); replace R_hb_ := Aside0.mk (R_hb_.out.put K_r.out hg_); replace R_z := Aside0.mk (R_z.out.put K_r.out hg_); replace R_el := Aside0.mk (R_el.out.put K_r.out hg_); replace K_a := Aside0.mk (K_a.out.put hg_ N_a_r.out.symm); replace K_b := Aside0.mk (K_b.out.put hg_ N_b_r.out.symm); replace HB := Aside0.mk (HB.out.grown hg_ HB.out.size (fun k_ hk_ => by cases hk_; exact L_r.out)); replace K_r := Aside0.mk (show Bx w17 g_r A_h0 hl.length c_h0 A_ha ha.length c_ha from hw_); clear hw_ hg_; have c_r_0 := K_r.out.c0; have c_r_1 := K_r.out.c1; have hyu := HY.out _ HB.out)
    | fail)
                            refine (split_Way.calls k4 A_h0 c_h0 hl A_ha c_ha ha (n + 1) 0 w17 R_h0.out.row R_h0.out.cap R_ha.out.row R_ha.out.cap F4.out).mono ?_
                            rintro e_ w18 ⟨rfl, hb⟩
                            replace R_0 := Aside0.mk (R_0.out.step hb); replace R_1 := Aside0.mk (R_1.out.step hb); replace R_e := Aside0.mk (R_e.out.step hb); replace R_h0 := Aside0.mk (R_h0.out.step hb); replace R_ha := Aside0.mk (R_ha.out.step hb); replace R_h1 := Aside0.mk (R_h1.out.step hb); replace R_hb_ := Aside0.mk (R_hb_.out.step hb); replace R_z := Aside0.mk (R_z.out.step hb); replace R_el := Aside0.mk (R_el.out.step hb); replace K_r := Aside0.mk (K_r.out.step hb); replace K_a := Aside0.mk (K_a.out.step hb); replace K_b := Aside0.mk (K_b.out.step hb); replace HB := Aside0.mk (below_step HB.out hb)
                            clear hb
                            go_wp2_with fail
                            go_roundg (gk - 1)
                            case measure => have := hm.out; have := HJ.out; omega
                            case rel => exact ⟨(j : Int) + 1, n + 1, hl, ha, A_h0, A_ha, c_h0, c_ha, by first | rfl | (rw [HN1.out]), by rw [show wrap64 ((j : Int) + 1) = (j : Int) + 1 from w64 _ (by omega) (by have := HJ.out; omega)], ⟨by have := hm.out; have := HJ.out; omega⟩, ⟨⟨HO.out.1, by have := HO.out.2.2.1; have := HG.out.2.1; omega, HO.out.2.2.2⟩⟩, K_r, R_h0, R_ha, R_e, HB⟩
                          · have hupT : True := trivial
                            go_wp2_with (first
    | ((with_reducible refine gate_store (t := 24) (p := 10) rfl ?_); refine store_row_event rfl 24 rfl rfl g_r #[.slice A_h0 hl.length c_h0, .slice A_ha ha.length c_ha] rfl rfl 24 _ K_r.out (info24.trans rfl) rfl (slices_one _ _ _ _ _ _) ?_; intro w17 hw_ hg_; replace R_0 := Aside0.mk (R_0.out.put K_r.out hg_); replace R_1 := Aside0.mk (R_1.out.put K_r.out hg_); replace R_e := Aside0.mk (R_e.out.put K_r.out hg_); replace R_h0 := Aside0.mk (R_h0.out.put K_r.out hg_); replace R_ha := Aside0.mk (R_ha.out.put K_r.out hg_); replace R_h1 := Aside0.mk (R_h1.out.put K_r.out hg_); replace R_hb_ := Aside0.mk (R_hb_.out.put K_r.out hg_); replace R_z := Aside0.mk (R_z.out.put K_r.out hg_); replace R_el := Aside0.mk (R_el.out.put K_r.out hg_); replace K_a := Aside0.mk (K_a.out.put hg_ N_a_r.out.symm); replace K_b := Aside0.mk (K_b.out.put hg_ N_b_r.out.symm); replace HB := Aside0.mk (HB.out.grown hg_ HB.out.size (fun k_ hk_ => by cases hk_; exact L_r.out)); replace K_r := Aside0.mk (show Bx w17 g_r A_h0 hl.length c_h0 A_ha ha.length c_ha from hw_); clear hw_ hg_; have c_r_0 := K_r.out.c0; have c_r_1 := K_r.out.c1; have hyu := HY.out _ HB.out; have c_b_0 := K_b.out.c0; have c_b_1 := K_b.out.c1)
    | ((with_reducible refine gate_store (t := 24) (p := 10) rfl ?_); refine store_row_event rfl 24 rfl rfl g_r #[.slice A_h1 hl.length c_h1, .slice A_hb_ hbb.length c_hb_] rfl rfl 24 _ K_r.out (info24.trans rfl) rfl (slices_one _ _ _ _ _ _) ?_; intro w18 hw_ hg_; replace R_0 := Aside0.mk (R_0.out.put K_r.out hg_); replace R_1 := Aside0.mk (R_1.out.put K_r.out hg_); replace R_e := Aside0.mk (R_e.out.put K_r.out hg_); replace R_h0 := Aside0.mk (R_h0.out.put K_r.out hg_); replace R_ha := Aside0.mk (R_ha.out.put K_r.out hg_); replace R_h1 := Aside0.mk (R_h1.out.put K_r.out hg_); replace R_hb_ := Aside0.mk (R_hb_.out.put K_r.out hg_); replace R_z := Aside0.mk (R_z.out.put K_r.out hg_); replace R_el := Aside0.mk (R_el.out.put K_r.out hg_); replace K_a := Aside0.mk (K_a.out.put hg_ N_a_r.out.symm); replace K_b := Aside0.mk (K_b.out.put hg_ N_b_r.out.symm); replace HB := Aside0.mk (HB.out.grown hg_ HB.out.size (fun k_ hk_ => by cases hk_; exact L_r.out)); replace K_r := Aside0.mk (show Bx w18 g_r A_h1 hl.length c_h1 A_hb_ hbb.length c_hb_ from hw_); clear hw_ hg_; have c_r_0 := K_r.out.c0; have c_r_1 := K_r.out.c1)
    | fail)
                            refine (split_Way.calls k5 A_h1 c_h1 hl A_hb_ c_hb_ hbb (n + 1) 0 w18 R_h1.out.row R_h1.out.cap R_hb_.out.row R_hb_.out.cap F5.out).mono ?_
                            rintro e_ w19 ⟨rfl, hb⟩
                            replace R_0 := Aside0.mk (R_0.out.step hb); replace R_1 := Aside0.mk (R_1.out.step hb); replace R_e := Aside0.mk (R_e.out.step hb); replace R_h0 := Aside0.mk (R_h0.out.step hb); replace R_ha := Aside0.mk (R_ha.out.step hb); replace R_h1 := Aside0.mk (R_h1.out.step hb); replace R_hb_ := Aside0.mk (R_hb_.out.step hb); replace R_z := Aside0.mk (R_z.out.step hb); replace R_el := Aside0.mk (R_el.out.step hb); replace K_r := Aside0.mk (K_r.out.step hb); replace K_a := Aside0.mk (K_a.out.step hb); replace K_b := Aside0.mk (K_b.out.step hb); replace HB := Aside0.mk (below_step HB.out hb)
                            clear hb
                            go_wp2_with fail
                            go_roundg (gk - 1)
                            case measure => have := hm.out; have := HJ.out; omega
                            case rel => exact ⟨(j : Int) + 1, n + 1, hl, hbb, A_h1, A_hb_, c_h1, c_hb_, by first | rfl | (rw [HN1.out]), by rw [show wrap64 ((j : Int) + 1) = (j : Int) + 1 from w64 _ (by omega) (by have := HJ.out; omega)], ⟨by have := hm.out; have := HJ.out; omega⟩, ⟨⟨HO.out.2.1, by have := HO.out.2.2.1; have := HG.out.2.1; omega, HO.out.2.2.2⟩⟩, K_r, R_h1, R_hb_, R_e, HB⟩
                      · obtain ⟨E, hEE⟩ : ∃ E, LA.hE lv at_ s = E := ⟨_, rfl⟩
                        have hne : (E != 0) = true := by rw [bne_iff_ne, ← hEE]; exact halve_bad hok
                        rw [hEE] at h2
                        obtain ⟨hl, ha, hbb, e1, e2, e3⟩ : ∃ x y z : List Int, LA.hL lv at_ s = x ∧ LA.hA lv at_ s = y ∧ LA.hB lv at_ s = z := ⟨_, _, _, rfl, rfl, rfl⟩
                        rw [e1, e2, e3] at h2
                        have F2 := Aside0.mk h2
                        clear h2 hEE e1 e2 e3
                        by_cases s0 : s < 0
                        · have s0b : decide (0 ≤ s) = false := decide_eq_false (by omega)
                          clear s0 hok
                          have c_r_0 := K_r.out.c0
                          have c_r_1 := K_r.out.c1
                          go_wp2_with fail
                          refine (split_Halve.calls k2 A0 c0 lv A1 c1 at_ s hl ha hl hbb E wr R_0.out.row R_0.out.cap R_1.out.row R_1.out.cap F2.out).mono ?_
                          rintro e_ w5 ⟨v0, v1, v2, v3, rfl, h0, h1, h2, h3, hb⟩
                          clear c_r_0 c_r_1 hy0 hy1
                          obtain ⟨A_h0, c_h0, rfl, r_h0⟩ := Rd.of_R h0
                          obtain ⟨A_ha, c_ha, rfl, r_ha⟩ := Rd.of_R h1
                          obtain ⟨A_h1, c_h1, rfl, r_h1⟩ := Rd.of_R h2
                          obtain ⟨A_hb_, c_hb_, rfl, r_hb_⟩ := Rd.of_R h3
                          replace R_0 := Aside0.mk (R_0.out.step hb); replace R_1 := Aside0.mk (R_1.out.step hb); replace R_e := Aside0.mk (R_e.out.step hb); replace K_r := Aside0.mk (K_r.out.step hb); replace HB := Aside0.mk (below_step HB.out hb)
                          have R_h0 := Aside0.mk r_h0
                          have R_ha := Aside0.mk r_ha
                          have R_h1 := Aside0.mk r_h1
                          have R_hb_ := Aside0.mk r_hb_
                          clear hb r_h0 h0 r_ha h1 r_h1 h2 r_hb_ h3
                          go_wp2_with (first
    | ((with_reducible refine gate_dst (N := 15) rfl ?_); refine box_event rfl (N := 15) rfl (cs := #[.slice none 0 0, .slice none 0 0]) (t := 24) ?hr ?_; (case hr => first | (go_simp; done) | (go_simp; rfl)); intro g_a hg_ w6 hw_ hb_; have N_a_r := Aside0.mk (show g_r ≠ g_a by have := K_r.out.lt; omega); have L_a := Aside0.mk (show w.heap.size ≤ g_a by have := HB.out.size; omega); replace R_0 := Aside0.mk (R_0.out.step hb_); replace R_1 := Aside0.mk (R_1.out.step hb_); replace R_e := Aside0.mk (R_e.out.step hb_); replace R_h0 := Aside0.mk (R_h0.out.step hb_); replace R_ha := Aside0.mk (R_ha.out.step hb_); replace R_h1 := Aside0.mk (R_h1.out.step hb_); replace R_hb_ := Aside0.mk (R_hb_.out.step hb_); replace K_r := Aside0.mk (K_r.out.step hb_); replace HB := Aside0.mk (below_step HB.out hb_); have K_a := Aside0.mk (show Bx w6 g_a none 0 0 none 0 0 from hw_); clear hg_ hw_ hb_)
    | ((with_reducible refine gate_dst (N := 16) rfl ?_); refine box_event rfl (N := 16) rfl (cs := #[.slice none 0 0, .slice none 0 0]) (t := 24) ?hr ?_; (case hr => first | (go_simp; done) | (go_simp; rfl)); intro g_b hg_ w7 hw_ hb_; have N_b_r := Aside0.mk (show g_r ≠ g_b by have := K_r.out.lt; omega); have N_b_a := Aside0.mk (show g_a ≠ g_b by have := K_a.out.lt; omega); have L_b := Aside0.mk (show w.heap.size ≤ g_b by have := HB.out.size; omega); replace R_0 := Aside0.mk (R_0.out.step hb_); replace R_1 := Aside0.mk (R_1.out.step hb_); replace R_e := Aside0.mk (R_e.out.step hb_); replace R_h0 := Aside0.mk (R_h0.out.step hb_); replace R_ha := Aside0.mk (R_ha.out.step hb_); replace R_h1 := Aside0.mk (R_h1.out.step hb_); replace R_hb_ := Aside0.mk (R_hb_.out.step hb_); replace K_r := Aside0.mk (K_r.out.step hb_); replace K_a := Aside0.mk (K_a.out.step hb_); replace HB := Aside0.mk (below_step HB.out hb_); have K_b := Aside0.mk (show Bx w7 g_b none 0 0 none 0 0 from hw_); clear hg_ hw_ hb_)
    | ((with_reducible refine gate_store (t := 24) (p := 15) rfl ?_); refine store_row_event rfl 24 rfl rfl g_a #[.slice A_h0 hl.length c_h0, .slice A_ha ha.length c_ha] rfl rfl 24 _ K_a.out (info24.trans rfl) rfl (slices_one _ _ _ _ _ _) ?_; intro w8 hw_ hg_; replace R_0 := Aside0.mk (R_0.out.put K_a.out hg_); replace R_1 := Aside0.mk (R_1.out.put K_a.out hg_); replace R_e := Aside0.mk (R_e.out.put K_a.out hg_); replace R_h0 := Aside0.mk (R_h0.out.put K_a.out hg_); replace R_ha := Aside0.mk (R_ha.out.put K_a.out hg_); replace R_h1 := Aside0.mk (R_h1.out.put K_a.out hg_); replace R_hb_ := Aside0.mk (R_hb_.out.put K_a.out hg_); replace K_r := Aside0.mk (K_r.out.put hg_ N_a_r.out); replace K_b := Aside0.mk (K_b.out.put hg_ N_b_a.out.symm); replace HB := Aside0.mk (HB.out.grown hg_ HB.out.size (fun k_ hk_ => by cases hk_; exact L_a.out)); replace K_a := Aside0.mk (show Bx w8 g_a A_h0 hl.length c_h0 A_ha ha.length c_ha from hw_); clear hw_ hg_; have c_a_0 := K_a.out.c0; have c_a_1 := K_a.out.c1)
    | ((with_reducible refine gate_store (t := 24) (p := 16) rfl ?_); refine store_row_event rfl 24 rfl rfl g_b #[.slice A_h1 hl.length c_h1, .slice A_hb_ hbb.length c_hb_] rfl rfl 24 _ K_b.out (info24.trans rfl) rfl (slices_one _ _ _ _ _ _) ?_; intro w9 hw_ hg_; replace R_0 := Aside0.mk (R_0.out.put K_b.out hg_); replace R_1 := Aside0.mk (R_1.out.put K_b.out hg_); replace R_e := Aside0.mk (R_e.out.put K_b.out hg_); replace R_h0 := Aside0.mk (R_h0.out.put K_b.out hg_); replace R_ha := Aside0.mk (R_ha.out.put K_b.out hg_); replace R_h1 := Aside0.mk (R_h1.out.put K_b.out hg_); replace R_hb_ := Aside0.mk (R_hb_.out.put K_b.out hg_); replace K_r := Aside0.mk (K_r.out.put hg_ N_b_r.out); replace K_a := Aside0.mk (K_a.out.put hg_ N_b_a.out); replace HB := Aside0.mk (HB.out.grown hg_ HB.out.size (fun k_ hk_ => by cases hk_; exact L_b.out)); replace K_b := Aside0.mk (show Bx w9 g_b A_h1 hl.length c_h1 A_hb_ hbb.length c_hb_ from hw_); clear hw_ hg_; have c_b_0 := K_b.out.c0; have c_b_1 := K_b.out.c1; have c_r_0 := K_r.out.c0; have c_r_1 := K_r.out.c1)
    | fail)
                          go_roundg (gk - 1)
                          case measure => have := hm.out; have := HJ.out; omega
                          case rel => exact ⟨(j : Int) + 1, n, lv, at_, A0, A1, c0, c1, rfl, by rw [show wrap64 ((j : Int) + 1) = (j : Int) + 1 from w64 _ (by omega) (by have := HJ.out; omega)], ⟨by have := hm.out; have := HJ.out; omega⟩, HG, K_r, R_0, R_1, R_e, HB⟩
                        · have s0b : decide (0 ≤ s) = true := decide_eq_true (by omega)
                          by_cases s1 : s < a
                          · have s1b : decide (s < a) = true := decide_eq_true s1
                            have hl8 : rd lv s = 8 := by
                              rcases Classical.em (rd lv s = 8) with h | h
                              · exact h
                              · exact absurd ⟨HG.out.1, by omega, by have := HG.out.2.1; omega, h⟩ hok
                            obtain ⟨j2, rfl⟩ : ∃ j2 : Nat, s = j2 := ⟨s.toNat, by omega⟩
                            have k3 := eq_true (show (0 : Int) ≤ (j2 : Int) by omega)
                            have hjl : j2 < lv.length := by have := HG.out.2.1; omega
                            have k6 := eq_true hjl
                            have k7 : decide ((j2 : Int) < (lv.length : Int)) = true := decide_eq_true (by omega)
                            have k8 := eq_true (show (j2 : Int) < (lv.length : Int) by omega)
                            obtain ⟨al, ea, _⟩ := Kd.at_int R_0.out.row (j2 : Int) (by omega) (by omega)
                            have hlv : ∀ (W : World), Rd W A0 c0 lv → W.cell? (al.add j2) = some (.int .i64 8) := by
                              intro W hW
                              obtain ⟨al', e', h'⟩ := Kd.at_int hW.row (j2 : Int) (by omega) (by omega)
                              rw [ea] at e'
                              cases e'
                              rw [Int.toNat_natCast, hl8] at h'
                              exact h'
                            have HLV := Aside0.mk hlv
                            clear hlv hl8 s0 s1 hok hjl
                            cases ea
                            have c_r_0 := K_r.out.c0
                            have c_r_1 := K_r.out.c1
                            go_wp2_with fail
                            refine (split_Halve.calls k2 (some al) c0 lv A1 c1 at_ (j2 : Int) hl ha hl hbb E wr R_0.out.row R_0.out.cap R_1.out.row R_1.out.cap F2.out).mono ?_
                            rintro e_ w5 ⟨v0, v1, v2, v3, rfl, h0, h1, h2, h3, hb⟩
                            clear c_r_0 c_r_1 hy0 hy1
                            obtain ⟨A_h0, c_h0, rfl, r_h0⟩ := Rd.of_R h0
                            obtain ⟨A_ha, c_ha, rfl, r_ha⟩ := Rd.of_R h1
                            obtain ⟨A_h1, c_h1, rfl, r_h1⟩ := Rd.of_R h2
                            obtain ⟨A_hb_, c_hb_, rfl, r_hb_⟩ := Rd.of_R h3
                            replace R_0 := Aside0.mk (R_0.out.step hb); replace R_1 := Aside0.mk (R_1.out.step hb); replace R_e := Aside0.mk (R_e.out.step hb); replace K_r := Aside0.mk (K_r.out.step hb); replace HB := Aside0.mk (below_step HB.out hb)
                            have R_h0 := Aside0.mk r_h0
                            have R_ha := Aside0.mk r_ha
                            have R_h1 := Aside0.mk r_h1
                            have R_hb_ := Aside0.mk r_hb_
                            clear hb r_h0 h0 r_ha h1 r_h1 h2 r_hb_ h3
                            go_wp2_with (first
    | ((with_reducible refine gate_dst (N := 15) rfl ?_); refine box_event rfl (N := 15) rfl (cs := #[.slice none 0 0, .slice none 0 0]) (t := 24) ?hr ?_; (case hr => first | (go_simp; done) | (go_simp; rfl)); intro g_a hg_ w6 hw_ hb_; have N_a_r := Aside0.mk (show g_r ≠ g_a by have := K_r.out.lt; omega); have L_a := Aside0.mk (show w.heap.size ≤ g_a by have := HB.out.size; omega); replace R_0 := Aside0.mk (R_0.out.step hb_); replace R_1 := Aside0.mk (R_1.out.step hb_); replace R_e := Aside0.mk (R_e.out.step hb_); replace R_h0 := Aside0.mk (R_h0.out.step hb_); replace R_ha := Aside0.mk (R_ha.out.step hb_); replace R_h1 := Aside0.mk (R_h1.out.step hb_); replace R_hb_ := Aside0.mk (R_hb_.out.step hb_); replace K_r := Aside0.mk (K_r.out.step hb_); replace HB := Aside0.mk (below_step HB.out hb_); have K_a := Aside0.mk (show Bx w6 g_a none 0 0 none 0 0 from hw_); clear hg_ hw_ hb_)
    | ((with_reducible refine gate_dst (N := 16) rfl ?_); refine box_event rfl (N := 16) rfl (cs := #[.slice none 0 0, .slice none 0 0]) (t := 24) ?hr ?_; (case hr => first | (go_simp; done) | (go_simp; rfl)); intro g_b hg_ w7 hw_ hb_; have N_b_r := Aside0.mk (show g_r ≠ g_b by have := K_r.out.lt; omega); have N_b_a := Aside0.mk (show g_a ≠ g_b by have := K_a.out.lt; omega); have L_b := Aside0.mk (show w.heap.size ≤ g_b by have := HB.out.size; omega); replace R_0 := Aside0.mk (R_0.out.step hb_); replace R_1 := Aside0.mk (R_1.out.step hb_); replace R_e := Aside0.mk (R_e.out.step hb_); replace R_h0 := Aside0.mk (R_h0.out.step hb_); replace R_ha := Aside0.mk (R_ha.out.step hb_); replace R_h1 := Aside0.mk (R_h1.out.step hb_); replace R_hb_ := Aside0.mk (R_hb_.out.step hb_); replace K_r := Aside0.mk (K_r.out.step hb_); replace K_a := Aside0.mk (K_a.out.step hb_); replace HB := Aside0.mk (below_step HB.out hb_); have K_b := Aside0.mk (show Bx w7 g_b none 0 0 none 0 0 from hw_); clear hg_ hw_ hb_)
    | ((with_reducible refine gate_store (t := 24) (p := 15) rfl ?_); refine store_row_event rfl 24 rfl rfl g_a #[.slice A_h0 hl.length c_h0, .slice A_ha ha.length c_ha] rfl rfl 24 _ K_a.out (info24.trans rfl) rfl (slices_one _ _ _ _ _ _) ?_; intro w8 hw_ hg_; replace R_0 := Aside0.mk (R_0.out.put K_a.out hg_); replace R_1 := Aside0.mk (R_1.out.put K_a.out hg_); replace R_e := Aside0.mk (R_e.out.put K_a.out hg_); replace R_h0 := Aside0.mk (R_h0.out.put K_a.out hg_); replace R_ha := Aside0.mk (R_ha.out.put K_a.out hg_); replace R_h1 := Aside0.mk (R_h1.out.put K_a.out hg_); replace R_hb_ := Aside0.mk (R_hb_.out.put K_a.out hg_); replace K_r := Aside0.mk (K_r.out.put hg_ N_a_r.out); replace K_b := Aside0.mk (K_b.out.put hg_ N_b_a.out.symm); replace HB := Aside0.mk (HB.out.grown hg_ HB.out.size (fun k_ hk_ => by cases hk_; exact L_a.out)); replace K_a := Aside0.mk (show Bx w8 g_a A_h0 hl.length c_h0 A_ha ha.length c_ha from hw_); clear hw_ hg_; have c_a_0 := K_a.out.c0; have c_a_1 := K_a.out.c1)
    | ((with_reducible refine gate_store (t := 24) (p := 16) rfl ?_); refine store_row_event rfl 24 rfl rfl g_b #[.slice A_h1 hl.length c_h1, .slice A_hb_ hbb.length c_hb_] rfl rfl 24 _ K_b.out (info24.trans rfl) rfl (slices_one _ _ _ _ _ _) ?_; intro w9 hw_ hg_; replace R_0 := Aside0.mk (R_0.out.put K_b.out hg_); replace R_1 := Aside0.mk (R_1.out.put K_b.out hg_); replace R_e := Aside0.mk (R_e.out.put K_b.out hg_); replace R_h0 := Aside0.mk (R_h0.out.put K_b.out hg_); replace R_ha := Aside0.mk (R_ha.out.put K_b.out hg_); replace R_h1 := Aside0.mk (R_h1.out.put K_b.out hg_); replace R_hb_ := Aside0.mk (R_hb_.out.put K_b.out hg_); replace K_r := Aside0.mk (K_r.out.put hg_ N_b_r.out); replace K_a := Aside0.mk (K_a.out.put hg_ N_b_a.out); replace HB := Aside0.mk (HB.out.grown hg_ HB.out.size (fun k_ hk_ => by cases hk_; exact L_b.out)); replace K_b := Aside0.mk (show Bx w9 g_b A_h1 hl.length c_h1 A_hb_ hbb.length c_hb_ from hw_); clear hw_ hg_; have c_b_0 := K_b.out.c0; have c_b_1 := K_b.out.c1; have c_r_0 := K_r.out.c0; have c_r_1 := K_r.out.c1; have hl0 := HLV.out _ R_0.out)
    | fail)
                            go_roundg (gk - 1)
                            case measure => have := hm.out; have := HJ.out; omega
                            case rel => exact ⟨(j : Int) + 1, n, lv, at_, (some al), A1, c0, c1, rfl, by rw [show wrap64 ((j : Int) + 1) = (j : Int) + 1 from w64 _ (by omega) (by have := HJ.out; omega)], ⟨by have := hm.out; have := HJ.out; omega⟩, HG, K_r, R_0, R_1, R_e, HB⟩
                          · have s1b : decide (s < a) = false := decide_eq_false s1
                            clear s0 s1 hok
                            have c_r_0 := K_r.out.c0
                            have c_r_1 := K_r.out.c1
                            go_wp2_with fail
                            refine (split_Halve.calls k2 A0 c0 lv A1 c1 at_ s hl ha hl hbb E wr R_0.out.row R_0.out.cap R_1.out.row R_1.out.cap F2.out).mono ?_
                            rintro e_ w5 ⟨v0, v1, v2, v3, rfl, h0, h1, h2, h3, hb⟩
                            clear c_r_0 c_r_1 hy0 hy1
                            obtain ⟨A_h0, c_h0, rfl, r_h0⟩ := Rd.of_R h0
                            obtain ⟨A_ha, c_ha, rfl, r_ha⟩ := Rd.of_R h1
                            obtain ⟨A_h1, c_h1, rfl, r_h1⟩ := Rd.of_R h2
                            obtain ⟨A_hb_, c_hb_, rfl, r_hb_⟩ := Rd.of_R h3
                            replace R_0 := Aside0.mk (R_0.out.step hb); replace R_1 := Aside0.mk (R_1.out.step hb); replace R_e := Aside0.mk (R_e.out.step hb); replace K_r := Aside0.mk (K_r.out.step hb); replace HB := Aside0.mk (below_step HB.out hb)
                            have R_h0 := Aside0.mk r_h0
                            have R_ha := Aside0.mk r_ha
                            have R_h1 := Aside0.mk r_h1
                            have R_hb_ := Aside0.mk r_hb_
                            clear hb r_h0 h0 r_ha h1 r_h1 h2 r_hb_ h3
                            go_wp2_with (first
    | ((with_reducible refine gate_dst (N := 15) rfl ?_); refine box_event rfl (N := 15) rfl (cs := #[.slice none 0 0, .slice none 0 0]) (t := 24) ?hr ?_; (case hr => first | (go_simp; done) | (go_simp; rfl)); intro g_a hg_ w6 hw_ hb_; have N_a_r := Aside0.mk (show g_r ≠ g_a by have := K_r.out.lt; omega); have L_a := Aside0.mk (show w.heap.size ≤ g_a by have := HB.out.size; omega); replace R_0 := Aside0.mk (R_0.out.step hb_); replace R_1 := Aside0.mk (R_1.out.step hb_); replace R_e := Aside0.mk (R_e.out.step hb_); replace R_h0 := Aside0.mk (R_h0.out.step hb_); replace R_ha := Aside0.mk (R_ha.out.step hb_); replace R_h1 := Aside0.mk (R_h1.out.step hb_); replace R_hb_ := Aside0.mk (R_hb_.out.step hb_); replace K_r := Aside0.mk (K_r.out.step hb_); replace HB := Aside0.mk (below_step HB.out hb_); have K_a := Aside0.mk (show Bx w6 g_a none 0 0 none 0 0 from hw_); clear hg_ hw_ hb_)
    | ((with_reducible refine gate_dst (N := 16) rfl ?_); refine box_event rfl (N := 16) rfl (cs := #[.slice none 0 0, .slice none 0 0]) (t := 24) ?hr ?_; (case hr => first | (go_simp; done) | (go_simp; rfl)); intro g_b hg_ w7 hw_ hb_; have N_b_r := Aside0.mk (show g_r ≠ g_b by have := K_r.out.lt; omega); have N_b_a := Aside0.mk (show g_a ≠ g_b by have := K_a.out.lt; omega); have L_b := Aside0.mk (show w.heap.size ≤ g_b by have := HB.out.size; omega); replace R_0 := Aside0.mk (R_0.out.step hb_); replace R_1 := Aside0.mk (R_1.out.step hb_); replace R_e := Aside0.mk (R_e.out.step hb_); replace R_h0 := Aside0.mk (R_h0.out.step hb_); replace R_ha := Aside0.mk (R_ha.out.step hb_); replace R_h1 := Aside0.mk (R_h1.out.step hb_); replace R_hb_ := Aside0.mk (R_hb_.out.step hb_); replace K_r := Aside0.mk (K_r.out.step hb_); replace K_a := Aside0.mk (K_a.out.step hb_); replace HB := Aside0.mk (below_step HB.out hb_); have K_b := Aside0.mk (show Bx w7 g_b none 0 0 none 0 0 from hw_); clear hg_ hw_ hb_)
    | ((with_reducible refine gate_store (t := 24) (p := 15) rfl ?_); refine store_row_event rfl 24 rfl rfl g_a #[.slice A_h0 hl.length c_h0, .slice A_ha ha.length c_ha] rfl rfl 24 _ K_a.out (info24.trans rfl) rfl (slices_one _ _ _ _ _ _) ?_; intro w8 hw_ hg_; replace R_0 := Aside0.mk (R_0.out.put K_a.out hg_); replace R_1 := Aside0.mk (R_1.out.put K_a.out hg_); replace R_e := Aside0.mk (R_e.out.put K_a.out hg_); replace R_h0 := Aside0.mk (R_h0.out.put K_a.out hg_); replace R_ha := Aside0.mk (R_ha.out.put K_a.out hg_); replace R_h1 := Aside0.mk (R_h1.out.put K_a.out hg_); replace R_hb_ := Aside0.mk (R_hb_.out.put K_a.out hg_); replace K_r := Aside0.mk (K_r.out.put hg_ N_a_r.out); replace K_b := Aside0.mk (K_b.out.put hg_ N_b_a.out.symm); replace HB := Aside0.mk (HB.out.grown hg_ HB.out.size (fun k_ hk_ => by cases hk_; exact L_a.out)); replace K_a := Aside0.mk (show Bx w8 g_a A_h0 hl.length c_h0 A_ha ha.length c_ha from hw_); clear hw_ hg_; have c_a_0 := K_a.out.c0; have c_a_1 := K_a.out.c1)
    | ((with_reducible refine gate_store (t := 24) (p := 16) rfl ?_); refine store_row_event rfl 24 rfl rfl g_b #[.slice A_h1 hl.length c_h1, .slice A_hb_ hbb.length c_hb_] rfl rfl 24 _ K_b.out (info24.trans rfl) rfl (slices_one _ _ _ _ _ _) ?_; intro w9 hw_ hg_; replace R_0 := Aside0.mk (R_0.out.put K_b.out hg_); replace R_1 := Aside0.mk (R_1.out.put K_b.out hg_); replace R_e := Aside0.mk (R_e.out.put K_b.out hg_); replace R_h0 := Aside0.mk (R_h0.out.put K_b.out hg_); replace R_ha := Aside0.mk (R_ha.out.put K_b.out hg_); replace R_h1 := Aside0.mk (R_h1.out.put K_b.out hg_); replace R_hb_ := Aside0.mk (R_hb_.out.put K_b.out hg_); replace K_r := Aside0.mk (K_r.out.put hg_ N_b_r.out); replace K_a := Aside0.mk (K_a.out.put hg_ N_b_a.out); replace HB := Aside0.mk (HB.out.grown hg_ HB.out.size (fun k_ hk_ => by cases hk_; exact L_b.out)); replace K_b := Aside0.mk (show Bx w9 g_b A_h1 hl.length c_h1 A_hb_ hbb.length c_hb_ from hw_); clear hw_ hg_; have c_b_0 := K_b.out.c0; have c_b_1 := K_b.out.c1; have c_r_0 := K_r.out.c0; have c_r_1 := K_r.out.c1)
    | fail)
                            go_roundg (gk - 1)
                            case measure => have := hm.out; have := HJ.out; omega
                            case rel => exact ⟨(j : Int) + 1, n, lv, at_, A0, A1, c0, c1, rfl, by rw [show wrap64 ((j : Int) + 1) = (j : Int) + 1 from w64 _ (by omega) (by have := HJ.out; omega)], ⟨by have := hm.out; have := HJ.out; omega⟩, HG, K_r, R_0, R_1, R_e, HB⟩
                    · have hx4b : decide (x < 40) = false := decide_eq_false hx4
                      clear hx hx4
                      go_wp2_with fail
                      refine (awake_calls _).mono ?_
                      rintro e_ w_ ⟨rfl, hb⟩
                      go_wp2_with fail
                      go_ret
                      exact ⟨by first | done | rfl, below_step HB.out hb⟩
                  · have hxb : decide (x < (l1.length : Int)) = false := decide_eq_false hx
                    clear hx
                    go_wp2_with fail
                    refine (awake_calls _).mono ?_
                    rintro e_ w_ ⟨rfl, hb⟩
                    go_wp2_with fail
                    go_ret
                    exact ⟨by first | done | rfl, below_step HB.out hb⟩
end Go.Proofs.Ytlidbaejhmamjaa.LW

namespace Go.Proofs.Ytlidbaejhmamjaa.LW
open Go.RowKit Go.ChangeShapes Go.WideShapes Go.Proofs.YtlidbaejhmamjaaW.PrintWords Go.Proofs.YtlidbaejhmamjaaW.PrintLast Go.Proofs.YtlidbaejhmamjaaW.PrintMore Go.Proofs.Ytlidbaejhmamjaa.PB Go.Proofs.Ytlidbaejhmamjaa.LA Go.Proofs.Ytlidbaejhmamjaa.AC
set_option linter.unusedVariables false
set_option linter.unusedSimpArgs false
section
variable {H : Type} {enc : TypeId × Value → H} {W : World} {base : Nat} {spare : Nat → Bool} {held : Bool}
theorem wf_i64 {n : Int} (h : (Lit.int .i64 n).wf = true) : -9223372036854775808 ≤ n ∧ n < 9223372036854775808 := by
  simp [Lit.wf, IntKind.min, IntKind.max, IntKind.signed, IntKind.bits] at h
  omega
theorem ints_of_trod {fuel : Nat} {v : Value} {x : DataW H × List MemPlace} (h : DataW.trod enc Try.prog W base spare held fuel 22 [v] = some x) : ∃ A c xs, v = .slice A xs.length c ∧ Rd W A c xs ∧ I64 xs := by
  rcases open_ints Try.underlying22 Try.underlying3 (by kernel_rfl) h with ⟨hcs, _⟩ | ⟨a, len, cap, zs, hcs, _, hl, hm, hz, _, hcell, hwz⟩
  · obtain rfl := (List.cons.inj hcs).1
    exact ⟨none, 0, [], rfl, ⟨Kd.C_nil _ _, Nat.le_refl _⟩, fun x hx => by simp at hx⟩
  · obtain rfl := (List.cons.inj hcs).1
    have hlz : len ≤ zs.length := by rw [hz]; split <;> omega
    have hlen : (zs.take len).length = len := by rw [List.length_take]; omega
    refine ⟨some a, cap, zs.take len, by rw [hlen], ⟨⟨rfl, by rw [hlen]; simp [maxLen] at hm; omega, fun _ => ⟨a, rfl, fun j p hj => ⟨[.int .i64 p], rfl, rfl, fun i u hu => ?_⟩⟩⟩, by rw [hlen]; exact hl⟩, fun x hx => wf_i64 (hwz x (List.mem_of_mem_take hx))⟩
    cases i with
    | succ i => cases hu
    | zero =>
      obtain rfl := Option.some.inj hu
      have hj2 : j < (zs.take len).length := by
        rcases Nat.lt_or_ge j (zs.take len).length with h1 | h1
        · exact h1
        · rw [List.getElem?_eq_none h1] at hj; cases hj
      have hj3 : zs[j]? = some p := by
        rw [List.getElem?_take] at hj
        split at hj
        · exact hj
        · cases hj
      have := hcell j (by omega)
      rw [List.getD_eq_getElem?_getD, hj3] at this
      show W.cell? (a.add (j * 1 + 0)) = _
      rw [Nat.mul_one, Nat.add_zero]
      exact this
theorem turns_of_trod {fuel : Nat} {v : Value} {x : DataW H × List MemPlace} (h : DataW.trod enc Try.prog W base spare held fuel 50 [v] = some x) : ∃ (A : Option Addr) (c : Nat) (xs : List S52), v = .slice A xs.length c ∧ xs.length ≤ c ∧ Kd.C k52 W A xs.length xs := by
  rcases Deep.open_slice_pairs Try.underlying50 Try.underlying52 (by kernel_rfl) rfl rfl (by kernel_rfl) (by kernel_rfl) h with ⟨hcs, _⟩ | ⟨a, len, cap, m, n, V0, V1, D0, D1, P0, P1, hcs, _, hl, hm, hmm, _, hcell⟩
  · obtain rfl := (List.cons.inj hcs).1
    exact ⟨none, 0, [], rfl, Nat.le_refl _, Kd.C_nil _ _⟩
  · obtain rfl := (List.cons.inj hcs).1
    have hlm : len ≤ m := by rw [hmm]; split <;> omega
    have each : ∀ i, i < len → ∃ q : Int × Bool, W.cell? (a.add (i * 2)) = some (.int .i64 q.1) ∧ W.cell? (a.add (i * 2 + 1)) = some (.bool q.2) := by
      intro i hi
      obtain ⟨h0, h1, t0, t1⟩ := hcell i (by omega)
      obtain ⟨z, e0, _, _⟩ := DataW.trod_int Try.underlying3 t0
      obtain ⟨b, e1, _⟩ := DataW.trod_bool Try.underlying4 t1
      obtain e0 := (List.cons.inj e0).1
      obtain e1 := (List.cons.inj e1).1
      exact ⟨(z, b), by rw [h0, e0], by rw [h1, e1]⟩
    obtain ⟨q, hq⟩ := Deep.choose_lt each
    have hlen : ((List.range len).map fun i => (⟨(q i).1, (q i).2⟩ : S52)).length = len := by simp
    refine ⟨some a, cap, (List.range len).map fun i => ⟨(q i).1, (q i).2⟩, by rw [hlen], by rw [hlen]; exact hl, ⟨rfl, by rw [hlen]; simp [maxLen] at hm; omega, fun _ => ⟨a, rfl, fun j p hj => ⟨[.int .i64 p.f0, .bool p.f1], rfl, k52_mk _ _, fun i u hu => ?_⟩⟩⟩⟩
    have hj2 : j < len := by
      rcases Nat.lt_or_ge j len with h1 | h1
      · exact h1
      · rw [List.getElem?_eq_none (by rw [hlen]; exact h1)] at hj; cases hj
    have hp : p = ⟨(q j).1, (q j).2⟩ := by
      rw [List.getElem?_map, List.getElem?_range hj2] at hj
      exact (Option.some.inj hj).symm
    subst hp
    match i with
    | 0 => obtain rfl := Option.some.inj hu; exact (hq j hj2).1
    | 1 => obtain rfl := Option.some.inj hu; exact (hq j hj2).2
    | i + 2 => cases hu
end
end Go.Proofs.Ytlidbaejhmamjaa.LW
